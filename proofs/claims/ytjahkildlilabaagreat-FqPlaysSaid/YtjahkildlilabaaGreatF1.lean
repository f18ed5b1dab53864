/- What each function of the program computes, as a weakest precondition, printed by program; the kernel sees that the code says so. -/
import Derived.Test.YtjahkildlilabaaGreatK
import Derived.Test.YtjahkildlilabaaGreatProg
set_option linter.unusedVariables false
namespace Go.X
open Go.Proofs
/-- (*canter/fq.Queue).due -/
def W_fq_Queue_due (n0 : Nat) (q : Option Pt) (now : Int) (R : Rs.T [] → WP) : WP :=
  new [.int .u64 now] fun n1 =>
  new [.sl ⟨none, 0, 0⟩] fun n2 =>
  join [] (fun J3 =>
  deref q fun q5 =>
  ld [.ptr] ⟨q5.b, q5.o + 18⟩ fun (x6 : Option Pt) =>
  call Tryz.prog N_rbtree_Tree_All [.lf (.ptr x6)] [.lf .fn] fun (r7 : Fv) =>
  rangeF Tryz.prog r7 [.agg [.int .u64, .int .u64]] (fun (v8 : (Int × Int)) mid9 next10 jump11 =>
  new [.int .u64 (0:Int), .int .u64 (0:Int)] fun n12 =>
  st ⟨n12, 0⟩ (Ks.mk [.int .u64, .int .u64] v8) <|
  mid9 <|
  ld [.int .u64] ⟨n12, 0⟩ fun (x13 : Int) =>
  ld [.int .u64] ⟨n1, 0⟩ fun (x14 : Int) =>
  ite' (decide (x13 > x14)) (
  jump11 2) <|
  ld [.sl] ⟨n2, 0⟩ fun (x15 : Sl) =>
  ld [.int .u64, .int .u64] ⟨n12, 0⟩ fun (x16 : Int × Int) =>
  new [.int .u64 x16.1, .int .u64 x16.2] fun n17 =>
  app 2 x15 ⟨some ⟨n17, 0⟩, 1, 1⟩ fun s18 =>
  st ⟨n2, 0⟩ [.sl s18] <|
  next10) fun i19 => isBy 0 i19 (J3 ()) <|
  isBy 2 i19 (J3 ()) <|
  wno) fun (y4 : Unit) =>
  ld [.sl] ⟨n2, 0⟩ fun (x20 : Sl) =>
  loop [.int .i64] (0:Int) fun J21 (y22 : Int) =>
  ite' (decide (y22 < ((x20.len : Nat) : Int))) (
  idx x20 y22 2 fun q23 =>
  ld [.int .u64, .int .u64] q23 fun (x24 : Int × Int) =>
  new [.int .u64 (0:Int), .int .u64 (0:Int)] fun n25 =>
  st ⟨n25, 0⟩ (Ks.mk [.int .u64, .int .u64] x24) <|
  drw <|
  ld [.int .u64, .int .u64] ⟨n25, 0⟩ fun (x26 : Int × Int) =>
  deref q fun q27 =>
  ld [.ptr] ⟨q27.b, q27.o + 18⟩ fun (x28 : Option Pt) =>
  call Tryz.prog N_rbtree_Tree_Delete [.lf (.ptr x28), .agg (Ks.mk [.int .u64, .int .u64] x26)] [.lf (.int .i64)] fun (r29 : Int) =>
  drw <|
  deref q fun q30 =>
  ld [.int .u64] ⟨n25, 1⟩ fun (x31 : Int) =>
  ld [.ptr] ⟨q30.b, q30.o + 17⟩ fun (x32 : Option Pt) =>
  call Tryz.prog N_lists_Lists_Push [.lf (.ptr x32), .lf (.int .i64 (IntKind.i64.wrap x31)), .lf (.bool false)] [.lf (.int .i64)] fun (r33 : Int) =>
  J21 (IntKind.i64.wrap (y22 + (1:Int)))) <|
  leave n0 <| R ()
theorem sem_fq_Queue_due (q : Option Pt) (now : Int) (R : Rs.T [] → WP) : Same (semF Tryz.prog Tryz.f26 (.s .o (.s .o (.j [] (.s .o (.b (.r [.agg [.int .u64, .int .u64]] .o (.b (.s (.s .o (.s .o .o)) .o))))) (.s .o (.b (.l [(24, .lf (.int .i64))] (.s .o (.s (.s .o .o) (.s (.b (.s .o (.s (.d (.f 0 [0] (.f 4 [7] (.f 1 [28] (.f 2 [29] (.f 3 [30] (.w 5 [31, 32] .fin))))))) (.d (.f 0 [0] (.f 4 [7] (.f 1 [34] (.f 5 [38] (.f 2 [35] (.f 6 [39] (.f 3 [36] (.w 7 [37, 40] .fin)))))))))))) .o))))))))) [.lf (.ptr q), .lf (.int .u64 now)] [] R) (fun w => W_fq_Queue_due w.heap.size q now R w) := ⟨by kernel_rfl⟩
theorem call_fq_Queue_due (q : Option Pt) (now : Int) (R : Rs.T [] → WP) (w : World) (h : W_fq_Queue_due w.heap.size q now R w) :
    CallX Tryz.prog N_fq_Queue_due ([.lf (.ptr q), .lf (.int .u64 now)].map V1.enc) w fun v w' => ∃ x, v = (retTV (Rs.mk [] x)).enc ∧ R x w' :=
  callX_of_semF Tryz.func26 (by kernel_rfl) (by kernel_rfl) (sem_fq_Queue_due q now R) h


/-- (*canter/fq.Queue).fate -/
def W_fq_Queue_fate (d : Option Pt) (o : Option Pt) (a : Int) (R : Rs.T [.lf (.int .i64)] → WP) : WP :=
  drw <|
  deref o fun q1 =>
  deref d fun q2 =>
  ld [.int .i64] q1 fun (x3 : Int) =>
  req (0 ≤ x3 ∧ x3 < 8) <|
  ld [.ptr] ⟨q2.b, q2.o + 9 + x3.toNat * 1⟩ fun (x4 : Option Pt) =>
  deref d fun q5 =>
  ld [.int .u64] ⟨q5.b, q5.o + 4⟩ fun (x6 : Int) =>
  call Tryz.prog N_sat_Add [.lf (.int .u64 a), .lf (.int .u64 x6)] [.lf (.int .u64)] fun (r7 : Int) =>
  join [] (fun J8 =>
  drw <|
  deref d fun q10 =>
  deref d fun q11 =>
  ld [.int .i64] ⟨q10.b, q10.o + 19⟩ fun (x12 : Int) =>
  ld [.int .i64] ⟨q11.b, q11.o + 2⟩ fun (x13 : Int) =>
  ite' (decide (x12 ≥ x13)) (
  R (2:Int)) <|
  join [.bool] (fun J14 =>
  drw <|
  ite' (!x4.isNone) (
  deref x4 fun q16 =>
  deref d fun q17 =>
  ld [.sl] ⟨q16.b, q16.o + 3⟩ fun (x18 : Sl) =>
  ld [.int .i64] ⟨q17.b, q17.o + 3⟩ fun (x19 : Int) =>
  J14 (decide (((x18.len : Nat) : Int) ≥ x19))) <|
  J14 false) fun (y15 : Bool) =>
  ite' y15 (
  R (3:Int)) <|
  deref o fun q20 =>
  ld [.int .u64] ⟨q20.b, q20.o + 3⟩ fun (x21 : Int) =>
  ite' (decide (x21 > r7)) (
  deref d fun q22 =>
  ld [.bool] ⟨q22.b, q22.o + 6⟩ fun (x23 : Bool) =>
  ite' x23 (
  R (4:Int)) <|
  J8 ()) <|
  J8 ()) fun (y9 : Unit) =>
  deref o fun q24 =>
  ld [.int .u64] ⟨q24.b, q24.o + 3⟩ fun (x25 : Int) =>
  deref o fun q26 =>
  st ⟨q26.b, q26.o + 3⟩ [.int .u64 (if r7 < x25 then r7 else x25)] <|
  R (0:Int)
theorem sem_fq_Queue_fate (d : Option Pt) (o : Option Pt) (a : Int) (R : Rs.T [.lf (.int .i64)] → WP) : Same (semF Tryz.prog Tryz.f53 (.s .o (.s (.d (.f 0 [0] (.f 1 [1] (.f 2 [10] (.f 5 [9] (.f 3 [11] (.f 6 [14] (.f 4 [12] (.f 7 [13, 15] (.f 8 [16] (.w 9 [17] .fin))))))))))) (.s .o (.j [] (.b (.s (.d (.f 0 [0] (.f 4 [0] (.f 1 [26] (.f 5 [30] (.f 2 [27] (.f 6 [31] (.f 3 [28] (.f 7 [32] (.f 8 [33] (.f 9 [29, 34] (.w 10 [35] .fin)))))))))))) (.s (.s .o .o) (.j [(36, .lf .bool)] (.d (.f 0 [7] (.f 1 [37] (.f 2 [38] (.f 3 [7, 39] (.f 8 [0, 39] (.f 4 [39, 40] (.f 9 [39, 45] (.f 5 [39, 41] (.f 10 [39, 46] (.f 6 [39, 42] (.f 11 [39, 47] (.f 7 [39, 43] (.f 12 [39, 48] (.f 13 [39, 44, 49] (.f 14 [39, 50] (.w 15 [51] .fin))))))))))))))))) (.s (.s .o .o) (.s .o (.s (.s .o .o) .o))))))) (.s .o (.s .o .o)))))) [.lf (.ptr d), .lf (.ptr o), .lf (.int .u64 a)] [.lf (.int .i64)] R) (fun w => W_fq_Queue_fate d o a R w) := ⟨by kernel_rfl⟩
theorem call_fq_Queue_fate (d : Option Pt) (o : Option Pt) (a : Int) (R : Rs.T [.lf (.int .i64)] → WP) (w : World) (h : W_fq_Queue_fate d o a R w) :
    CallX Tryz.prog N_fq_Queue_fate ([.lf (.ptr d), .lf (.ptr o), .lf (.int .u64 a)].map V1.enc) w fun v w' => ∃ x, v = (retTV (Rs.mk [.lf (.int .i64)] x)).enc ∧ R x w' :=
  callX_of_semF Tryz.func53 (by kernel_rfl) (by kernel_rfl) (sem_fq_Queue_fate d o a R) h


/-- (*canter/fq.Queue).has -/
def W_fq_Queue_has (q : Option Pt) (sock : Int) (R : Rs.T [.lf .bool] → WP) : WP :=
  ite' (!q.isNone) (
  call Tryz.prog N_fq_within [.lf (.int .i64 sock), .lf (.int .i64 (0:Int)), .lf (.int .i64 (7:Int))] [.lf .bool] fun (r1 : Bool) =>
  ite' r1 (
  deref q fun q2 =>
  req (0 ≤ sock ∧ sock < 8) <|
  ld [.ptr] ⟨q2.b, q2.o + 9 + sock.toNat * 1⟩ fun (x3 : Option Pt) =>
  R (!x3.isNone)) <|
  R false) <|
  R false
theorem sem_fq_Queue_has (q : Option Pt) (sock : Int) (R : Rs.T [.lf .bool] → WP) : Same (semF Tryz.prog Tryz.f46 (.s .o (.s .o .o)) [.lf (.ptr q), .lf (.int .i64 sock)] [.lf .bool] R) (fun w => W_fq_Queue_has q sock R w) := ⟨by kernel_rfl⟩
theorem call_fq_Queue_has (q : Option Pt) (sock : Int) (R : Rs.T [.lf .bool] → WP) (w : World) (h : W_fq_Queue_has q sock R w) :
    CallX Tryz.prog N_fq_Queue_has ([.lf (.ptr q), .lf (.int .i64 sock)].map V1.enc) w fun v w' => ∃ x, v = (retTV (Rs.mk [.lf .bool] x)).enc ∧ R x w' :=
  callX_of_semF Tryz.func46 (by kernel_rfl) (by kernel_rfl) (sem_fq_Queue_has q sock R) h


/-- (*canter/fq.Queue).idle -/
def W_fq_Queue_idle (q : Option Pt) (sock : Int) (long : Int) (now : Int) (R : Rs.T [.lf .bool] → WP) : WP :=
  deref q fun q1 =>
  req (0 ≤ sock ∧ sock < 8) <|
  ld [.ptr] ⟨q1.b, q1.o + 9 + sock.toNat * 1⟩ fun (x2 : Option Pt) =>
  ite' (!x2.isNone) (
  call Tryz.prog N_fq_Queue_place [.lf (.ptr q), .lf (.int .i64 sock)] [.lf (.int .i64)] fun (r3 : Int) =>
  ite' (r3 == (0:Int)) (
  deref x2 fun q4 =>
  ld [.int .u64] ⟨q4.b, q4.o + 2⟩ fun (x5 : Int) =>
  call Tryz.prog N_sat_Add [.lf (.int .u64 x5), .lf (.int .u64 long)] [.lf (.int .u64)] fun (r6 : Int) =>
  R (decide (r6 ≤ now))) <|
  R false) <|
  R false
theorem sem_fq_Queue_idle (q : Option Pt) (sock : Int) (long : Int) (now : Int) (R : Rs.T [.lf .bool] → WP) : Same (semF Tryz.prog Tryz.f85 (.s .o (.s .o (.s .o .o))) [.lf (.ptr q), .lf (.int .i64 sock), .lf (.int .u64 long), .lf (.int .u64 now)] [.lf .bool] R) (fun w => W_fq_Queue_idle q sock long now R w) := ⟨by kernel_rfl⟩
theorem call_fq_Queue_idle (q : Option Pt) (sock : Int) (long : Int) (now : Int) (R : Rs.T [.lf .bool] → WP) (w : World) (h : W_fq_Queue_idle q sock long now R w) :
    CallX Tryz.prog N_fq_Queue_idle ([.lf (.ptr q), .lf (.int .i64 sock), .lf (.int .u64 long), .lf (.int .u64 now)].map V1.enc) w fun v w' => ∃ x, v = (retTV (Rs.mk [.lf .bool] x)).enc ∧ R x w' :=
  callX_of_semF Tryz.func85 (by kernel_rfl) (by kernel_rfl) (sem_fq_Queue_idle q sock long now R) h


/-- (*canter/fq.Queue).old -/
def W_fq_Queue_old (n0 : Nat) (q : Option Pt) (R : Rs.T [.lf .bool] → WP) : WP :=
  new [.bool false] fun n1 =>
  deref q fun q2 =>
  ld [.ptr] ⟨q2.b, q2.o + 17⟩ fun (x3 : Option Pt) =>
  call Tryz.prog N_lists_Lists_All [.lf (.ptr x3)] [.lf .fn] fun (r4 : Fv) =>
  rangeF Tryz.prog r4 [.lf (.int .i64), .lf .bool] (fun (v5 : Int × Bool) mid6 next7 jump8 =>
  mid6 <|
  ite' (!v5.2) (
  st ⟨n1, 0⟩ [.bool true] <|
  jump8 1) <|
  next7) fun i9 => isBy 0 i9 (st ⟨n1, 0⟩ [.bool false] <|
  ld [.bool] ⟨n1, 0⟩ fun (x10 : Bool) =>
  leave n0 <| R x10) <|
  isBy 1 i9 (ld [.bool] ⟨n1, 0⟩ fun (x11 : Bool) =>
  leave n0 <| R x11) <|
  wno
theorem sem_fq_Queue_old (q : Option Pt) (R : Rs.T [.lf .bool] → WP) : Same (semF Tryz.prog Tryz.f29 (.s .o (.s (.s .o (.b (.r [.lf (.int .i64), .lf .bool] .o (.b (.s .o (.s (.s .o .o) .o)))))) (.s .o .o))) [.lf (.ptr q)] [.lf .bool] R) (fun w => W_fq_Queue_old w.heap.size q R w) := ⟨by kernel_rfl⟩
theorem call_fq_Queue_old (q : Option Pt) (R : Rs.T [.lf .bool] → WP) (w : World) (h : W_fq_Queue_old w.heap.size q R w) :
    CallX Tryz.prog N_fq_Queue_old ([.lf (.ptr q)].map V1.enc) w fun v w' => ∃ x, v = (retTV (Rs.mk [.lf .bool] x)).enc ∧ R x w' :=
  callX_of_semF Tryz.func29 (by kernel_rfl) (by kernel_rfl) (sem_fq_Queue_old q R) h


/-- (*canter/fq.Queue).place -/
def W_fq_Queue_place (q : Option Pt) (sock : Int) (R : Rs.T [.lf (.int .i64)] → WP) : WP :=
  deref q fun q1 =>
  ld [.ptr] ⟨q1.b, q1.o + 17⟩ fun (x2 : Option Pt) =>
  call Tryz.prog N_lists_Lists_Place [.lf (.ptr x2), .lf (.int .i64 sock)] [.lf (.int .i64)] fun (r3 : Int) =>
  ite' (r3 != (0:Int)) (
  R r3) <|
  deref q fun q4 =>
  req (0 ≤ sock ∧ sock < 8) <|
  ld [.ptr] ⟨q4.b, q4.o + 9 + sock.toNat * 1⟩ fun (x5 : Option Pt) =>
  ite' (!x5.isNone) (
  deref x5 fun q6 =>
  ld [.sl] ⟨q6.b, q6.o + 3⟩ fun (x7 : Sl) =>
  ite' (decide (((x7.len : Nat) : Int) > (0:Int))) (
  R (3:Int)) <|
  R (0:Int)) <|
  R (0:Int)
theorem sem_fq_Queue_place (q : Option Pt) (sock : Int) (R : Rs.T [.lf (.int .i64)] → WP) : Same (semF Tryz.prog Tryz.f47 (.s .o (.s (.s .o (.s .o (.s (.s .o .o) .o))) (.s (.s .o (.s .o (.s (.s .o .o) .o))) (.s .o .o)))) [.lf (.ptr q), .lf (.int .i64 sock)] [.lf (.int .i64)] R) (fun w => W_fq_Queue_place q sock R w) := ⟨by kernel_rfl⟩
theorem call_fq_Queue_place (q : Option Pt) (sock : Int) (R : Rs.T [.lf (.int .i64)] → WP) (w : World) (h : W_fq_Queue_place q sock R w) :
    CallX Tryz.prog N_fq_Queue_place ([.lf (.ptr q), .lf (.int .i64 sock)].map V1.enc) w fun v w' => ∃ x, v = (retTV (Rs.mk [.lf (.int .i64)] x)).enc ∧ R x w' :=
  callX_of_semF Tryz.func47 (by kernel_rfl) (by kernel_rfl) (sem_fq_Queue_place q sock R) h


/-- (*canter/fq.Queue).send -/
def W_fq_Queue_send (q : Option Pt) (f : Option Pt) (now : Int) (rate : Int) (R : Rs.T [.agg K_iuiub] → WP) : WP :=
  new [.int .i64 (0:Int), .int .u64 (0:Int), .int .i64 (0:Int), .int .u64 (0:Int), .bool false] fun n1 =>
  deref f fun q2 =>
  ld [.sl] ⟨q2.b, q2.o + 3⟩ fun (x3 : Sl) =>
  idx x3 (0:Int) 5 fun q4 =>
  ld K_iuiub q4 fun (x5 : T_iuiub) =>
  new [.int .i64 (0:Int), .int .u64 (0:Int), .int .i64 (0:Int), .int .u64 (0:Int), .bool false] fun n6 =>
  st ⟨n6, 0⟩ (Ks.mk K_iuiub x5) <|
  deref f fun q7 =>
  ld [.sl] ⟨q7.b, q7.o + 3⟩ fun (x8 : Sl) =>
  slc x8 (some (1:Int)) none none 5 fun s9 =>
  deref f fun q10 =>
  st ⟨q10.b, q10.o + 3⟩ [.sl s9] <|
  deref q fun q11 =>
  ld [.int .i64] ⟨q11.b, q11.o + 19⟩ fun (x12 : Int) =>
  deref q fun q13 =>
  st ⟨q13.b, q13.o + 19⟩ [.int .i64 (IntKind.i64.wrap (x12 - (1:Int)))] <|
  drw <|
  deref f fun q14 =>
  ld [.int .i64] ⟨n6, 2⟩ fun (x15 : Int) =>
  ld [.int .i64] q14 fun (x16 : Int) =>
  deref f fun q17 =>
  st q17 [.int .i64 (IntKind.i64.wrap (x16 - x15))] <|
  drw <|
  ld [.int .i64] ⟨n6, 2⟩ fun (x18 : Int) =>
  deref q fun q19 =>
  ld [.int .u64] ⟨q19.b, q19.o + 5⟩ fun (x20 : Int) =>
  call Tryz.prog N_delay_Lesser [.lf (.int .u64 rate), .lf (.int .u64 x20)] [.lf (.int .u64)] fun (r21 : Int) =>
  chk ⟨n6, 2⟩ (Ks.mk [.int .i64] x18) <|
  call Tryz.prog N_delay_Of [.lf (.int .i64 x18), .lf (.int .u64 r21)] [.lf (.int .u64)] fun (r22 : Int) =>
  call Tryz.prog N_sat_Add [.lf (.int .u64 now), .lf (.int .u64 r22)] [.lf (.int .u64)] fun (r23 : Int) =>
  deref f fun q24 =>
  st ⟨q24.b, q24.o + 1⟩ [.int .u64 r23] <|
  ld K_iuiub ⟨n6, 0⟩ fun (x25 : T_iuiub) =>
  st ⟨n1, 0⟩ (Ks.mk K_iuiub x25) <|
  ld K_iuiub ⟨n1, 0⟩ fun (x26 : T_iuiub) =>
  R x26
theorem sem_fq_Queue_send (q : Option Pt) (f : Option Pt) (now : Int) (rate : Int) (R : Rs.T [.agg K_iuiub] → WP) : Same (semF Tryz.prog Tryz.f34 (.s .o (.s .o (.s .o (.s .o (.s (.d (.f 0 [1] (.f 4 [9] (.f 1 [31] (.f 5 [35] (.f 2 [32] (.f 3 [33] (.f 6 [34, 36] (.f 7 [31] (.f 8 [38] (.w 9 [37, 39] .fin))))))))))) (.s (.d (.f 0 [1] (.f 1 [2] (.f 2 [9] (.f 4 [3] (.f 5 [0] (.f 3 [42] (.f 6 [45] (.f 7 [46] (.f 8 [47] (.f 9 [48] (.w 10 [44, 49] (.w 11 [43, 50] (.w 12 [41, 51] (.f 13 [40] (.f 14 [53] (.w 15 [52, 54] .fin))))))))))))))))) (.s .o .o))))))) [.lf (.ptr q), .lf (.ptr f), .lf (.int .u64 now), .lf (.int .u64 rate)] [.agg K_iuiub] R) (fun w => W_fq_Queue_send q f now rate R w) := ⟨by kernel_rfl⟩
theorem call_fq_Queue_send (q : Option Pt) (f : Option Pt) (now : Int) (rate : Int) (R : Rs.T [.agg K_iuiub] → WP) (w : World) (h : W_fq_Queue_send q f now rate R w) :
    CallX Tryz.prog N_fq_Queue_send ([.lf (.ptr q), .lf (.ptr f), .lf (.int .u64 now), .lf (.int .u64 rate)].map V1.enc) w fun v w' => ∃ x, v = (retTV (Rs.mk [.agg K_iuiub] x)).enc ∧ R x w' :=
  callX_of_semF Tryz.func34 (by kernel_rfl) (by kernel_rfl) (sem_fq_Queue_send q f now rate R) h


/-- (*canter/fq.Queue).wake -/
def W_fq_Queue_wake (d : Option Pt) (o : Int) (a : Int) (R : Rs.T [] → WP) : WP :=
  deref d fun q1 =>
  req (0 ≤ o ∧ o < 8) <|
  ld [.ptr] ⟨q1.b, q1.o + 9 + o.toNat * 1⟩ fun (x2 : Option Pt) =>
  join [] (fun J3 =>
  ite' x2.isNone (
  drw <|
  deref d fun q5 =>
  deref d fun q6 =>
  ld [.int .i64] ⟨q5.b, q5.o + 1⟩ fun (x7 : Int) =>
  new [.int .i64 x7, .int .u64 (0:Int), .int .u64 (0:Int), .sl ⟨none, 0, 0⟩] fun n8 =>
  req (0 ≤ o ∧ o < 8) <|
  st ⟨q6.b, q6.o + 9 + o.toNat * 1⟩ [.ptr (some ⟨n8, 0⟩)] <|
  J3 ()) <|
  call Tryz.prog N_fq_Queue_place [.lf (.ptr d), .lf (.int .i64 o)] [.lf (.int .i64)] fun (r9 : Int) =>
  ite' (r9 != (0:Int)) (
  R ()) <|
  call Tryz.prog N_fq_Queue_idle [.lf (.ptr d), .lf (.int .i64 o), .lf (.int .u64 (40000000:Int)), .lf (.int .u64 a)] [.lf .bool] fun (r10 : Bool) =>
  ite' r10 (
  drw <|
  deref x2 fun q11 =>
  deref d fun q12 =>
  ld [.int .i64] q11 fun (x13 : Int) =>
  ld [.int .i64] q12 fun (x14 : Int) =>
  deref x2 fun q15 =>
  st q15 [.int .i64 (if x14 > x13 then x14 else x13)] <|
  J3 ()) <|
  J3 ()) fun (y4 : Unit) =>
  deref d fun q16 =>
  req (0 ≤ o ∧ o < 8) <|
  ld [.ptr] ⟨q16.b, q16.o + 9 + o.toNat * 1⟩ fun (x17 : Option Pt) =>
  deref x17 fun q18 =>
  st ⟨q18.b, q18.o + 2⟩ [.int .u64 (0:Int)] <|
  deref d fun q19 =>
  ld [.ptr] ⟨q19.b, q19.o + 17⟩ fun (x20 : Option Pt) =>
  call Tryz.prog N_lists_Lists_Push [.lf (.ptr x20), .lf (.int .i64 o), .lf (.bool true)] [.lf (.int .i64)] fun (r21 : Int) =>
  R ()
theorem sem_fq_Queue_wake (d : Option Pt) (o : Int) (a : Int) (R : Rs.T [] → WP) : Same (semF Tryz.prog Tryz.f54 (.s .o (.j [] (.b (.s .o (.s (.d (.f 0 [0] (.f 1 [1] (.f 2 [0] (.f 3 [18] (.f 9 [16] (.f 4 [19] (.f 10 [25] (.f 5 [20] (.f 6 [21] (.f 7 [22] (.w 8 [23] (.f 11 [17, 26] (.w 12 [24, 27] .fin)))))))))))))) (.s .o (.s .o (.s .o (.s (.d (.f 0 [6] (.f 1 [6] (.f 5 [0] (.f 2 [39] (.f 6 [43] (.f 3 [40] (.f 7 [44] (.f 4 [41] (.f 8 [45] (.f 9 [46] (.f 10 [42, 47] (.f 11 [38] (.f 12 [49] (.w 13 [48, 50] .fin))))))))))))))) .o))))))) (.s .o .o))) [.lf (.ptr d), .lf (.int .i64 o), .lf (.int .u64 a)] [] R) (fun w => W_fq_Queue_wake d o a R w) := ⟨by kernel_rfl⟩
theorem call_fq_Queue_wake (d : Option Pt) (o : Int) (a : Int) (R : Rs.T [] → WP) (w : World) (h : W_fq_Queue_wake d o a R w) :
    CallX Tryz.prog N_fq_Queue_wake ([.lf (.ptr d), .lf (.int .i64 o), .lf (.int .u64 a)].map V1.enc) w fun v w' => ∃ x, v = (retTV (Rs.mk [] x)).enc ∧ R x w' :=
  callX_of_semF Tryz.func54 (by kernel_rfl) (by kernel_rfl) (sem_fq_Queue_wake d o a R) h


/-- (*canter/fq.flow).time -/
def W_fq_flow_time (f : Option Pt) (R : Rs.T [.lf (.int .u64)] → WP) : WP :=
  drw <|
  deref f fun q1 =>
  deref f fun q2 =>
  ld [.int .u64] ⟨q1.b, q1.o + 1⟩ fun (x3 : Int) =>
  ld [.sl] ⟨q2.b, q2.o + 3⟩ fun (x4 : Sl) =>
  idx x4 (0:Int) 5 fun q5 =>
  ld [.int .u64] ⟨q5.b, q5.o + 3⟩ fun (x6 : Int) =>
  R (if x6 > x3 then x6 else x3)
theorem sem_fq_flow_time (f : Option Pt) (R : Rs.T [.lf (.int .u64)] → WP) : Same (semF Tryz.prog Tryz.f31 (.s .o (.s (.d (.f 0 [0] (.f 4 [0] (.f 1 [3] (.f 5 [7] (.f 2 [4] (.f 6 [8] (.f 3 [5] (.f 7 [9] (.f 8 [10] (.f 9 [11] (.f 10 [12] (.f 11 [6, 13] (.w 12 [14] .fin)))))))))))))) .o)) [.lf (.ptr f)] [.lf (.int .u64)] R) (fun w => W_fq_flow_time f R w) := ⟨by kernel_rfl⟩
theorem call_fq_flow_time (f : Option Pt) (R : Rs.T [.lf (.int .u64)] → WP) (w : World) (h : W_fq_flow_time f R w) :
    CallX Tryz.prog N_fq_flow_time ([.lf (.ptr f)].map V1.enc) w fun v w' => ∃ x, v = (retTV (Rs.mk [.lf (.int .u64)] x)).enc ∧ R x w' :=
  callX_of_semF Tryz.func31 (by kernel_rfl) (by kernel_rfl) (sem_fq_flow_time f R) h


/-- canter/fq.key -/
def W_fq_key (f : Option Pt) (sock : Int) (R : Rs.T [.agg [.int .u64, .int .u64]] → WP) : WP :=
  new [.int .u64 (0:Int), .int .u64 (0:Int)] fun n1 =>
  call Tryz.prog N_fq_flow_time [.lf (.ptr f)] [.lf (.int .u64)] fun (r2 : Int) =>
  st ⟨n1, 0⟩ [.int .u64 r2, .int .u64 (IntKind.u64.wrap sock)] <|
  ld [.int .u64, .int .u64] ⟨n1, 0⟩ fun (x3 : Int × Int) =>
  R x3
theorem sem_fq_key (f : Option Pt) (sock : Int) (R : Rs.T [.agg [.int .u64, .int .u64]] → WP) : Same (semF Tryz.prog Tryz.f33 (.s .o (.s .o .o)) [.lf (.ptr f), .lf (.int .i64 sock)] [.agg [.int .u64, .int .u64]] R) (fun w => W_fq_key f sock R w) := ⟨by kernel_rfl⟩
theorem call_fq_key (f : Option Pt) (sock : Int) (R : Rs.T [.agg [.int .u64, .int .u64]] → WP) (w : World) (h : W_fq_key f sock R w) :
    CallX Tryz.prog N_fq_key ([.lf (.ptr f), .lf (.int .i64 sock)].map V1.enc) w fun v w' => ∃ x, v = (retTV (Rs.mk [.agg [.int .u64, .int .u64]] x)).enc ∧ R x w' :=
  callX_of_semF Tryz.func33 (by kernel_rfl) (by kernel_rfl) (sem_fq_key f sock R) h


/-- canter/fq.within -/
def W_fq_within (v : Int) (lo : Int) (hi : Int) (R : Rs.T [.lf .bool] → WP) : WP :=
  R ((decide (v ≥ lo)) && (decide (v ≤ hi)))
theorem sem_fq_within (v : Int) (lo : Int) (hi : Int) (R : Rs.T [.lf .bool] → WP) : Same (semF Tryz.prog Tryz.f43 (.s .o (.s .o .o)) [.lf (.int .i64 v), .lf (.int .i64 lo), .lf (.int .i64 hi)] [.lf .bool] R) (fun w => W_fq_within v lo hi R w) := ⟨by kernel_rfl⟩
theorem call_fq_within (v : Int) (lo : Int) (hi : Int) (R : Rs.T [.lf .bool] → WP) (w : World) (h : W_fq_within v lo hi R w) :
    CallX Tryz.prog N_fq_within ([.lf (.int .i64 v), .lf (.int .i64 lo), .lf (.int .i64 hi)].map V1.enc) w fun v w' => ∃ x, v = (retTV (Rs.mk [.lf .bool] x)).enc ∧ R x w' :=
  callX_of_semF Tryz.func43 (by kernel_rfl) (by kernel_rfl) (sem_fq_within v lo hi R) h


/-- (*canter/lists.Lists).All -/
def W_lists_Lists_All (l : Option Pt) (R : Rs.T [.lf .fn] → WP) : WP :=
  new [.ptr l] fun n1 =>
  R (.mk (.func N_lists_Lists_All_c1) [] [V1.enc (.lf (.ptr (some ⟨n1, 0⟩)))])
theorem sem_lists_Lists_All (l : Option Pt) (R : Rs.T [.lf .fn] → WP) : Same (semF Tryz.prog Tryz.f66 (.s .o (.s .o .o)) [.lf (.ptr l)] [.lf .fn] R) (fun w => W_lists_Lists_All l R w) := ⟨by kernel_rfl⟩
theorem call_lists_Lists_All (l : Option Pt) (R : Rs.T [.lf .fn] → WP) (w : World) (h : W_lists_Lists_All l R w) :
    CallX Tryz.prog N_lists_Lists_All ([.lf (.ptr l)].map V1.enc) w fun v w' => ∃ x, v = (retTV (Rs.mk [.lf .fn] x)).enc ∧ R x w' :=
  callX_of_semF Tryz.func66 (by kernel_rfl) (by kernel_rfl) (sem_lists_Lists_All l R) h


/-- (*canter/lists.Lists).All$1 -/
def W_lists_Lists_All_c1 (yield : Fv) (c0 : Pt) (R : Rs.T [] → WP) : WP :=
  ld [.ptr] c0 fun (x1 : Option Pt) =>
  ite' x1.isNone (
  R ()) <|
  ld [.ptr] c0 fun (x2 : Option Pt) =>
  deref x2 fun q3 =>
  ld [.sl] q3 fun (x4 : Sl) =>
  drw <|
  ld [.ptr] c0 fun (x5 : Option Pt) =>
  ld [.ptr] c0 fun (x6 : Option Pt) =>
  deref x5 fun q7 =>
  deref x6 fun q8 =>
  ld [.sl] q7 fun (x9 : Sl) =>
  ld [.sl] ⟨q8.b, q8.o + 1⟩ fun (x10 : Sl) =>
  new [.sl x9, .sl x10] fun n11 =>
  call Tryz.prog N_slices_Concat_sintint [.lf (.sl ⟨some ⟨n11, 0⟩, 2, 2⟩)] [.lf .sl] fun (r12 : Sl) =>
  loop [.int .i64] (0:Int) fun J13 (y14 : Int) =>
  ite' (decide (y14 < ((r12.len : Nat) : Int))) (
  idx r12 y14 1 fun q15 =>
  ld [.int .i64] q15 fun (x16 : Int) =>
  callv Tryz.prog yield [.lf (.int .i64 x16), .lf (.bool (decide (y14 < ((x4.len : Nat) : Int))))] [.lf .bool] fun (r17 : Bool) =>
  ite' (!r17) (
  R ()) <|
  J13 (IntKind.i64.wrap (y14 + (1:Int)))) <|
  R ()
theorem sem_lists_Lists_All_c1 (yield : Fv) (c0 : Pt) (R : Rs.T [] → WP) : Same (semF Tryz.prog Tryz.f89 (.s (.s .o (.s .o .o)) (.s .o (.s (.d (.f 0 [1] (.f 4 [1] (.f 11 [] (.f 1 [13] (.f 5 [17] (.f 2 [14] (.f 6 [18] (.f 3 [15] (.f 7 [19] (.w 8 [16, 20] (.w 9 [21] (.f 10 [22] .fin))))))))))))) (.b (.l [(24, .lf (.int .i64))] (.s .o (.s (.s .o .o) (.s (.b (.s .o (.s .o (.s .o .o)))) .o)))))))) [.lf (.fn yield), .lf (.ptr (some c0))] [] R) (fun w => W_lists_Lists_All_c1 yield c0 R w) := ⟨by kernel_rfl⟩
theorem call_lists_Lists_All_c1 (yield : Fv) (c0 : Pt) (R : Rs.T [] → WP) (w : World) (h : W_lists_Lists_All_c1 yield c0 R w) :
    CallX Tryz.prog N_lists_Lists_All_c1 ([.lf (.fn yield), .lf (.ptr (some c0))].map V1.enc) w fun v w' => ∃ x, v = (retTV (Rs.mk [] x)).enc ∧ R x w' :=
  callX_of_semF Tryz.func89 (by kernel_rfl) (by kernel_rfl) (sem_lists_Lists_All_c1 yield c0 R) h


/-- (*canter/lists.Lists).Back -/
def W_lists_Lists_Back (l : Option Pt) (R : Rs.T [.lf .bool] → WP) : WP :=
  call Tryz.prog N_lists_Lists_Head [.lf (.ptr l)] [.lf (.int .i64), .lf .bool, .lf .bool] fun (r1 : Int × Bool × Bool) =>
  ite' r1.2.2 (
  call Tryz.prog N_lists_Lists_Remove [.lf (.ptr l), .lf (.int .i64 r1.1)] [.lf .bool] fun (r2 : Bool) =>
  ite' r2 (
  call Tryz.prog N_lists_Lists_Push [.lf (.ptr l), .lf (.int .i64 r1.1), .lf (.bool false)] [.lf (.int .i64)] fun (r3 : Int) =>
  R (r3 == (0:Int))) <|
  R false) <|
  R false
theorem sem_lists_Lists_Back (l : Option Pt) (R : Rs.T [.lf .bool] → WP) : Same (semF Tryz.prog Tryz.f28 (.s .o (.s .o (.s .o .o))) [.lf (.ptr l)] [.lf .bool] R) (fun w => W_lists_Lists_Back l R w) := ⟨by kernel_rfl⟩
theorem call_lists_Lists_Back (l : Option Pt) (R : Rs.T [.lf .bool] → WP) (w : World) (h : W_lists_Lists_Back l R w) :
    CallX Tryz.prog N_lists_Lists_Back ([.lf (.ptr l)].map V1.enc) w fun v w' => ∃ x, v = (retTV (Rs.mk [.lf .bool] x)).enc ∧ R x w' :=
  callX_of_semF Tryz.func28 (by kernel_rfl) (by kernel_rfl) (sem_lists_Lists_Back l R) h


/-- (*canter/lists.Lists).Drop -/
def W_lists_Lists_Drop (l : Option Pt) (R : Rs.T [.lf .bool] → WP) : WP :=
  call Tryz.prog N_lists_Lists_Head [.lf (.ptr l)] [.lf (.int .i64), .lf .bool, .lf .bool] fun (r1 : Int × Bool × Bool) =>
  ite' r1.2.2 (
  call Tryz.prog N_lists_Lists_Remove [.lf (.ptr l), .lf (.int .i64 r1.1)] [.lf .bool] fun (r2 : Bool) =>
  R r2) <|
  R false
theorem sem_lists_Lists_Drop (l : Option Pt) (R : Rs.T [.lf .bool] → WP) : Same (semF Tryz.prog Tryz.f30 (.s .o (.s .o (.s .o .o))) [.lf (.ptr l)] [.lf .bool] R) (fun w => W_lists_Lists_Drop l R w) := ⟨by kernel_rfl⟩
theorem call_lists_Lists_Drop (l : Option Pt) (R : Rs.T [.lf .bool] → WP) (w : World) (h : W_lists_Lists_Drop l R w) :
    CallX Tryz.prog N_lists_Lists_Drop ([.lf (.ptr l)].map V1.enc) w fun v w' => ∃ x, v = (retTV (Rs.mk [.lf .bool] x)).enc ∧ R x w' :=
  callX_of_semF Tryz.func30 (by kernel_rfl) (by kernel_rfl) (sem_lists_Lists_Drop l R) h


/-- (*canter/lists.Lists).Head -/
def W_lists_Lists_Head (n0 : Nat) (l : Option Pt) (R : Rs.T [.lf (.int .i64), .lf .bool, .lf .bool] → WP) : WP :=
  new [.int .i64 (0:Int)] fun n1 =>
  new [.bool false] fun n2 =>
  new [.bool false] fun n3 =>
  join [] (fun J4 =>
  call Tryz.prog N_lists_Lists_All [.lf (.ptr l)] [.lf .fn] fun (r6 : Fv) =>
  rangeF Tryz.prog r6 [.lf (.int .i64), .lf .bool] (fun (v7 : Int × Bool) mid8 next9 jump10 =>
  mid8 <|
  st ⟨n1, 0⟩ [.int .i64 v7.1] <|
  st ⟨n2, 0⟩ [.bool v7.2] <|
  st ⟨n3, 0⟩ [.bool true] <|
  jump10 1) fun i11 => isBy 0 i11 (J4 ()) <|
  isBy 1 i11 (ld [.int .i64] ⟨n1, 0⟩ fun (x12 : Int) =>
  ld [.bool] ⟨n2, 0⟩ fun (x13 : Bool) =>
  ld [.bool] ⟨n3, 0⟩ fun (x14 : Bool) =>
  leave n0 <| R (x12, x13, x14)) <|
  wno) fun (y5 : Unit) =>
  st ⟨n1, 0⟩ [.int .i64 (0:Int)] <|
  st ⟨n2, 0⟩ [.bool false] <|
  st ⟨n3, 0⟩ [.bool false] <|
  ld [.int .i64] ⟨n1, 0⟩ fun (x15 : Int) =>
  ld [.bool] ⟨n2, 0⟩ fun (x16 : Bool) =>
  ld [.bool] ⟨n3, 0⟩ fun (x17 : Bool) =>
  leave n0 <| R (x15, x16, x17)
theorem sem_lists_Lists_Head (l : Option Pt) (R : Rs.T [.lf (.int .i64), .lf .bool, .lf .bool] → WP) : Same (semF Tryz.prog Tryz.f27 (.s .o (.j [] (.s .o (.b (.r [.lf (.int .i64), .lf .bool] (.s .o .o) (.b (.s .o .o))))) (.s .o .o))) [.lf (.ptr l)] [.lf (.int .i64), .lf .bool, .lf .bool] R) (fun w => W_lists_Lists_Head w.heap.size l R w) := ⟨by kernel_rfl⟩
theorem call_lists_Lists_Head (l : Option Pt) (R : Rs.T [.lf (.int .i64), .lf .bool, .lf .bool] → WP) (w : World) (h : W_lists_Lists_Head w.heap.size l R w) :
    CallX Tryz.prog N_lists_Lists_Head ([.lf (.ptr l)].map V1.enc) w fun v w' => ∃ x, v = (retTV (Rs.mk [.lf (.int .i64), .lf .bool, .lf .bool] x)).enc ∧ R x w' :=
  callX_of_semF Tryz.func27 (by kernel_rfl) (by kernel_rfl) (sem_lists_Lists_Head l R) h


/-- (*canter/lists.Lists).Place -/
def W_lists_Lists_Place (n0 : Nat) (l : Option Pt) (sock : Int) (R : Rs.T [.lf (.int .i64)] → WP) : WP :=
  new [.int .i64 sock] fun n1 =>
  new [.int .i64 (0:Int)] fun n2 =>
  call Tryz.prog N_lists_Lists_All [.lf (.ptr l)] [.lf .fn] fun (r3 : Fv) =>
  rangeF Tryz.prog r3 [.lf (.int .i64), .lf .bool] (fun (v4 : Int × Bool) mid5 next6 jump7 =>
  mid5 <|
  ld [.int .i64] ⟨n1, 0⟩ fun (x8 : Int) =>
  ite' (v4.1 != x8) (
  next6) <|
  ite' v4.2 (
  st ⟨n2, 0⟩ [.int .i64 (1:Int)] <|
  jump7 1) <|
  st ⟨n2, 0⟩ [.int .i64 (2:Int)] <|
  jump7 1) fun i9 => isBy 0 i9 (st ⟨n2, 0⟩ [.int .i64 (0:Int)] <|
  ld [.int .i64] ⟨n2, 0⟩ fun (x10 : Int) =>
  leave n0 <| R x10) <|
  isBy 1 i9 (ld [.int .i64] ⟨n2, 0⟩ fun (x11 : Int) =>
  leave n0 <| R x11) <|
  wno
theorem sem_lists_Lists_Place (l : Option Pt) (sock : Int) (R : Rs.T [.lf (.int .i64)] → WP) : Same (semF Tryz.prog Tryz.f77 (.s .o (.s (.s .o (.b (.r [.lf (.int .i64), .lf .bool] (.s .o .o) (.b (.s (.s .o (.s .o .o)) (.s (.s .o (.s (.s .o .o) .o)) (.s .o .o))))))) (.s .o .o))) [.lf (.ptr l), .lf (.int .i64 sock)] [.lf (.int .i64)] R) (fun w => W_lists_Lists_Place w.heap.size l sock R w) := ⟨by kernel_rfl⟩
theorem call_lists_Lists_Place (l : Option Pt) (sock : Int) (R : Rs.T [.lf (.int .i64)] → WP) (w : World) (h : W_lists_Lists_Place w.heap.size l sock R w) :
    CallX Tryz.prog N_lists_Lists_Place ([.lf (.ptr l), .lf (.int .i64 sock)].map V1.enc) w fun v w' => ∃ x, v = (retTV (Rs.mk [.lf (.int .i64)] x)).enc ∧ R x w' :=
  callX_of_semF Tryz.func77 (by kernel_rfl) (by kernel_rfl) (sem_lists_Lists_Place l sock R) h


/-- (*canter/lists.Lists).Push -/
def W_lists_Lists_Push (l : Option Pt) (sock : Int) (fresh : Bool) (R : Rs.T [.lf (.int .i64)] → WP) : WP :=
  ite' l.isNone (
  R (2:Int)) <|
  ite' ((decide (sock < (0:Int))) || (decide (sock ≥ (8:Int)))) (
  R (8:Int)) <|
  call Tryz.prog N_lists_Lists_Place [.lf (.ptr l), .lf (.int .i64 sock)] [.lf (.int .i64)] fun (r1 : Int) =>
  ite' (r1 != (0:Int)) (
  R (6:Int)) <|
  ite' fresh (
  deref l fun q2 =>
  ld [.sl] q2 fun (x3 : Sl) =>
  new [.int .i64 sock] fun n4 =>
  app 1 x3 ⟨some ⟨n4, 0⟩, 1, 1⟩ fun s5 =>
  deref l fun q6 =>
  st q6 [.sl s5] <|
  R (0:Int)) <|
  deref l fun q7 =>
  ld [.sl] ⟨q7.b, q7.o + 1⟩ fun (x8 : Sl) =>
  new [.int .i64 sock] fun n9 =>
  app 1 x8 ⟨some ⟨n9, 0⟩, 1, 1⟩ fun s10 =>
  deref l fun q11 =>
  st ⟨q11.b, q11.o + 1⟩ [.sl s10] <|
  R (0:Int)
theorem sem_lists_Lists_Push (l : Option Pt) (sock : Int) (fresh : Bool) (R : Rs.T [.lf (.int .i64)] → WP) : Same (semF Tryz.prog Tryz.f65 (.s .o (.s (.b (.s .o (.s (.s .o .o) (.s .o (.s (.s .o .o) (.s .o (.s (.s .o .o) (.s .o (.s .o .o))))))))) (.s .o .o))) [.lf (.ptr l), .lf (.int .i64 sock), .lf (.bool fresh)] [.lf (.int .i64)] R) (fun w => W_lists_Lists_Push l sock fresh R w) := ⟨by kernel_rfl⟩
theorem call_lists_Lists_Push (l : Option Pt) (sock : Int) (fresh : Bool) (R : Rs.T [.lf (.int .i64)] → WP) (w : World) (h : W_lists_Lists_Push l sock fresh R w) :
    CallX Tryz.prog N_lists_Lists_Push ([.lf (.ptr l), .lf (.int .i64 sock), .lf (.bool fresh)].map V1.enc) w fun v w' => ∃ x, v = (retTV (Rs.mk [.lf (.int .i64)] x)).enc ∧ R x w' :=
  callX_of_semF Tryz.func65 (by kernel_rfl) (by kernel_rfl) (sem_lists_Lists_Push l sock fresh R) h


/-- (*canter/lists.Lists).Remove -/
def W_lists_Lists_Remove (l : Option Pt) (sock : Int) (R : Rs.T [.lf .bool] → WP) : WP :=
  new [.int .i64 sock] fun n1 =>
  ld [.int .i64] ⟨n1, 0⟩ fun (x2 : Int) =>
  call Tryz.prog N_lists_Lists_Place [.lf (.ptr l), .lf (.int .i64 x2)] [.lf (.int .i64)] fun (r3 : Int) =>
  ite' (r3 == (0:Int)) (
  R false) <|
  drw <|
  deref l fun q4 =>
  deref l fun q5 =>
  ld [.sl] q4 fun (x6 : Sl) =>
  ld [.sl] ⟨q5.b, q5.o + 1⟩ fun (x7 : Sl) =>
  call Tryz.prog N_slices_DeleteFunc_sintint [.lf (.sl x6), .lf (.fn (.mk (.func N_lists_Lists_Remove_c1) [] [V1.enc (.lf (.ptr (some ⟨n1, 0⟩)))]))] [.lf .sl] fun (r8 : Sl) =>
  chk ⟨q5.b, q5.o + 1⟩ (Ks.mk [.sl] x7) <|
  call Tryz.prog N_slices_DeleteFunc_sintint [.lf (.sl x7), .lf (.fn (.mk (.func N_lists_Lists_Remove_c1) [] [V1.enc (.lf (.ptr (some ⟨n1, 0⟩)))]))] [.lf .sl] fun (r9 : Sl) =>
  deref l fun q10 =>
  st q10 [.sl r8] <|
  deref l fun q11 =>
  st ⟨q11.b, q11.o + 1⟩ [.sl r9] <|
  R true
theorem sem_lists_Lists_Remove (l : Option Pt) (sock : Int) (R : Rs.T [.lf .bool] → WP) : Same (semF Tryz.prog Tryz.f49 (.s .o (.s (.s .o (.s (.s .o .o) .o)) (.s .o (.s (.d (.f 0 [0] (.f 1 [0] (.f 2 [0] (.f 6 [5] (.f 8 [0] (.f 12 [5] (.f 3 [13] (.f 9 [19] (.f 4 [14] (.f 10 [20] (.f 5 [15] (.f 11 [21] (.w 7 [16, 17] (.w 13 [22, 23] (.f 14 [11] (.f 15 [25] (.w 16 [18, 26] (.f 17 [12] (.f 18 [27] (.w 19 [24, 28] .fin))))))))))))))))))))) (.s .o .o))))) [.lf (.ptr l), .lf (.int .i64 sock)] [.lf .bool] R) (fun w => W_lists_Lists_Remove l sock R w) := ⟨by kernel_rfl⟩
theorem call_lists_Lists_Remove (l : Option Pt) (sock : Int) (R : Rs.T [.lf .bool] → WP) (w : World) (h : W_lists_Lists_Remove l sock R w) :
    CallX Tryz.prog N_lists_Lists_Remove ([.lf (.ptr l), .lf (.int .i64 sock)].map V1.enc) w fun v w' => ∃ x, v = (retTV (Rs.mk [.lf .bool] x)).enc ∧ R x w' :=
  callX_of_semF Tryz.func49 (by kernel_rfl) (by kernel_rfl) (sem_lists_Lists_Remove l sock R) h


/-- (*canter/lists.Lists).Remove$1 -/
def W_lists_Lists_Remove_c1 (s : Int) (c0 : Pt) (R : Rs.T [.lf .bool] → WP) : WP :=
  ld [.int .i64] c0 fun (x1 : Int) =>
  R (s == x1)
theorem sem_lists_Lists_Remove_c1 (s : Int) (c0 : Pt) (R : Rs.T [.lf .bool] → WP) : Same (semF Tryz.prog Tryz.f81 (.s .o (.s .o .o)) [.lf (.int .i64 s), .lf (.ptr (some c0))] [.lf .bool] R) (fun w => W_lists_Lists_Remove_c1 s c0 R w) := ⟨by kernel_rfl⟩
theorem call_lists_Lists_Remove_c1 (s : Int) (c0 : Pt) (R : Rs.T [.lf .bool] → WP) (w : World) (h : W_lists_Lists_Remove_c1 s c0 R w) :
    CallX Tryz.prog N_lists_Lists_Remove_c1 ([.lf (.int .i64 s), .lf (.ptr (some c0))].map V1.enc) w fun v w' => ∃ x, v = (retTV (Rs.mk [.lf .bool] x)).enc ∧ R x w' :=
  callX_of_semF Tryz.func81 (by kernel_rfl) (by kernel_rfl) (sem_lists_Lists_Remove_c1 s c0 R) h


/-- canter/lists.New -/
def W_lists_New  (R : Rs.T [.lf .ptr] → WP) : WP :=
  new [.sl ⟨none, 0, 0⟩, .sl ⟨none, 0, 0⟩] fun n1 =>
  R (some ⟨n1, 0⟩)
theorem sem_lists_New  (R : Rs.T [.lf .ptr] → WP) : Same (semF Tryz.prog Tryz.f23 (.s .o (.s .o .o)) [] [.lf .ptr] R) (fun w => W_lists_New  R w) := ⟨by kernel_rfl⟩
theorem call_lists_New  (R : Rs.T [.lf .ptr] → WP) (w : World) (h : W_lists_New  R w) :
    CallX Tryz.prog N_lists_New ([].map V1.enc) w fun v w' => ∃ x, v = (retTV (Rs.mk [.lf .ptr] x)).enc ∧ R x w' :=
  callX_of_semF Tryz.func23 (by kernel_rfl) (by kernel_rfl) (sem_lists_New  R) h


/-- math/bits.Add64 (the model stands in for it) -/
def W_math_bits_Add64 (x y c : Int) (R : Rs.T [.lf (.int .u64), .lf (.int .u64)] → WP) : WP :=
  req ((0 ≤ x ∧ 0 ≤ y) ∧ 0 ≤ c ∧ c ≤ 1) <|
  R ((x + y + c) % 18446744073709551616, (x + y + c) / 18446744073709551616)
theorem call_math_bits_Add64 (x y c : Int) (R : Rs.T [.lf (.int .u64), .lf (.int .u64)] → WP) (w : World) (h : W_math_bits_Add64 x y c R w) :
    CallX Tryz.prog N_math_bits_Add64 ([.lf (.int .u64 x), .lf (.int .u64 y), .lf (.int .u64 c)].map V1.enc) w fun v w' => ∃ x, v = (retTV (Rs.mk [.lf (.int .u64), .lf (.int .u64)] x)).enc ∧ R x w' := by
  obtain ⟨hp, h⟩ := h
  exact callX_extern Tryz.func93 (by kernel_rfl) (by kernel_rfl) (by kernel_rfl) (x := add64Entry) (by kernel_rfl) (run_add64 x y c hp.1.1 hp.1.2 hp.2.1 hp.2.2 w) ⟨_, rfl, h⟩


/-- math/bits.Mul64 -/
def W_math_bits_Mul64 (x : Int) (y : Int) (R : Rs.T [.lf (.int .u64), .lf (.int .u64)] → WP) : WP :=
  req (0 ≤ (32:Int)) <|
  req (0 ≤ (32:Int)) <|
  req (0 ≤ (32:Int)) <|
  req (0 ≤ (32:Int)) <|
  req (0 ≤ (32:Int)) <|
  R ((IntKind.u64.wrap ((IntKind.u64.wrap ((IntKind.u64.wrap ((x.fdiv (2 ^ min (32:Int).toNat IntKind.u64.bits)) * (y.fdiv (2 ^ min (32:Int).toNat IntKind.u64.bits)))) + ((IntKind.u64.wrap ((IntKind.u64.wrap ((x.fdiv (2 ^ min (32:Int).toNat IntKind.u64.bits)) * (IntKind.u64.wrap (BitVec.ofInt IntKind.u64.bits y &&& BitVec.ofInt IntKind.u64.bits (4294967295:Int)).toNat))) + ((IntKind.u64.wrap ((IntKind.u64.wrap (BitVec.ofInt IntKind.u64.bits x &&& BitVec.ofInt IntKind.u64.bits (4294967295:Int)).toNat) * (IntKind.u64.wrap (BitVec.ofInt IntKind.u64.bits y &&& BitVec.ofInt IntKind.u64.bits (4294967295:Int)).toNat))).fdiv (2 ^ min (32:Int).toNat IntKind.u64.bits)))).fdiv (2 ^ min (32:Int).toNat IntKind.u64.bits)))) + ((IntKind.u64.wrap ((IntKind.u64.wrap (BitVec.ofInt IntKind.u64.bits (IntKind.u64.wrap ((IntKind.u64.wrap ((x.fdiv (2 ^ min (32:Int).toNat IntKind.u64.bits)) * (IntKind.u64.wrap (BitVec.ofInt IntKind.u64.bits y &&& BitVec.ofInt IntKind.u64.bits (4294967295:Int)).toNat))) + ((IntKind.u64.wrap ((IntKind.u64.wrap (BitVec.ofInt IntKind.u64.bits x &&& BitVec.ofInt IntKind.u64.bits (4294967295:Int)).toNat) * (IntKind.u64.wrap (BitVec.ofInt IntKind.u64.bits y &&& BitVec.ofInt IntKind.u64.bits (4294967295:Int)).toNat))).fdiv (2 ^ min (32:Int).toNat IntKind.u64.bits)))) &&& BitVec.ofInt IntKind.u64.bits (4294967295:Int)).toNat) + (IntKind.u64.wrap ((IntKind.u64.wrap (BitVec.ofInt IntKind.u64.bits x &&& BitVec.ofInt IntKind.u64.bits (4294967295:Int)).toNat) * (y.fdiv (2 ^ min (32:Int).toNat IntKind.u64.bits)))))).fdiv (2 ^ min (32:Int).toNat IntKind.u64.bits)))), (IntKind.u64.wrap (x * y)))
theorem sem_math_bits_Mul64 (x : Int) (y : Int) (R : Rs.T [.lf (.int .u64), .lf (.int .u64)] → WP) : Same (semF Tryz.prog Tryz.f111 (.s .o (.s .o (.s .o (.s .o (.s .o (.s .o (.s .o (.s .o (.s .o (.s .o (.s .o (.s .o .o)))))))))))) [.lf (.int .u64 x), .lf (.int .u64 y)] [.lf (.int .u64), .lf (.int .u64)] R) (fun w => W_math_bits_Mul64 x y R w) := ⟨by kernel_rfl⟩
theorem call_math_bits_Mul64 (x : Int) (y : Int) (R : Rs.T [.lf (.int .u64), .lf (.int .u64)] → WP) (w : World) (h : W_math_bits_Mul64 x y R w) :
    CallX Tryz.prog N_math_bits_Mul64 ([.lf (.int .u64 x), .lf (.int .u64 y)].map V1.enc) w fun v w' => ∃ x, v = (retTV (Rs.mk [.lf (.int .u64), .lf (.int .u64)] x)).enc ∧ R x w' :=
  callX_of_semF Tryz.func111 (by kernel_rfl) (by kernel_rfl) (sem_math_bits_Mul64 x y R) h

/-- canter/rbtree.New -/
def W_rbtree_New (n : Int) (R : Rs.T [.lf .ptr] → WP) : WP :=
  call Tryz.prog N_arena_New [.lf (.int .i64 (if (4096:Int) < (if (0:Int) > n then (0:Int) else n) then (4096:Int) else (if (0:Int) > n then (0:Int) else n)))] [.lf .ptr] fun (r1 : Option Pt) =>
  new [.ptr r1, .sl ⟨none, 0, 0⟩, .int .i64 (0:Int), .int .i64 (0:Int), .int .i64 (if (4096:Int) < (if (0:Int) > n then (0:Int) else n) then (4096:Int) else (if (0:Int) > n then (0:Int) else n))] fun n2 =>
  R (some ⟨n2, 0⟩)
theorem sem_rbtree_New (n : Int) (R : Rs.T [.lf .ptr] → WP) : Same (semF Tryz.prog Tryz.f24 (.s .o (.s .o (.s .o .o))) [.lf (.int .i64 n)] [.lf .ptr] R) (fun w => W_rbtree_New n R w) := ⟨by kernel_rfl⟩
theorem call_rbtree_New (n : Int) (R : Rs.T [.lf .ptr] → WP) (w : World) (h : W_rbtree_New n R w) :
    CallX Tryz.prog N_rbtree_New ([.lf (.int .i64 n)].map V1.enc) w fun v w' => ∃ x, v = (retTV (Rs.mk [.lf .ptr] x)).enc ∧ R x w' :=
  callX_of_semF Tryz.func24 (by kernel_rfl) (by kernel_rfl) (sem_rbtree_New n R) h


/-- (*canter/rbtree.Tree).All -/
def W_rbtree_Tree_All (t : Option Pt) (R : Rs.T [.lf .fn] → WP) : WP :=
  new [.ptr t] fun n1 =>
  R (.mk (.func N_rbtree_Tree_All_c1) [] [V1.enc (.lf (.ptr (some ⟨n1, 0⟩)))])
theorem sem_rbtree_Tree_All (t : Option Pt) (R : Rs.T [.lf .fn] → WP) : Same (semF Tryz.prog Tryz.f64 (.s .o (.s .o .o)) [.lf (.ptr t)] [.lf .fn] R) (fun w => W_rbtree_Tree_All t R w) := ⟨by kernel_rfl⟩
theorem call_rbtree_Tree_All (t : Option Pt) (R : Rs.T [.lf .fn] → WP) (w : World) (h : W_rbtree_Tree_All t R w) :
    CallX Tryz.prog N_rbtree_Tree_All ([.lf (.ptr t)].map V1.enc) w fun v w' => ∃ x, v = (retTV (Rs.mk [.lf .fn] x)).enc ∧ R x w' :=
  callX_of_semF Tryz.func64 (by kernel_rfl) (by kernel_rfl) (sem_rbtree_Tree_All t R) h


/-- (*canter/rbtree.Tree).All$1 -/
def W_rbtree_Tree_All_c1 (yield : Fv) (c0 : Pt) (R : Rs.T [] → WP) : WP :=
  ld [.ptr] c0 fun (x1 : Option Pt) =>
  call Tryz.prog N_rbtree_Tree_root [.lf (.ptr x1)] [.lf (.int .i64)] fun (r2 : Int) =>
  ite' (r2 == (-1:Int)) (
  R ()) <|
  drw <|
  ld [.ptr] c0 fun (x3 : Option Pt) =>
  ld [.ptr] c0 fun (x4 : Option Pt) =>
  call Tryz.prog N_rbtree_Tree_root [.lf (.ptr x4)] [.lf (.int .i64)] fun (r5 : Int) =>
  chk c0 (Ks.mk [.ptr] x3) <|
  call Tryz.prog N_rbtree_Tree_least [.lf (.ptr x3), .lf (.int .i64 r5)] [.lf .sl] fun (r6 : Sl) =>
  loop [.sl] r6 fun J7 (y8 : Sl) =>
  ite' (decide (((y8.len : Nat) : Int) > (0:Int))) (
  idx y8 (IntKind.i64.wrap (((y8.len : Nat) : Int) - (1:Int))) 1 fun q9 =>
  ld [.int .i64] q9 fun (x10 : Int) =>
  slc y8 none (some (IntKind.i64.wrap (((y8.len : Nat) : Int) - (1:Int)))) none 1 fun s11 =>
  ld [.ptr] c0 fun (x12 : Option Pt) =>
  deref x12 fun q13 =>
  ld [.sl] ⟨q13.b, q13.o + 1⟩ fun (x14 : Sl) =>
  idx x14 x10 5 fun q15 =>
  ld [.int .u64, .int .u64] q15 fun (x16 : Int × Int) =>
  callv Tryz.prog yield [.agg (Ks.mk [.int .u64, .int .u64] x16)] [.lf .bool] fun (r17 : Bool) =>
  ite' (!r17) (
  R ()) <|
  drw <|
  ld [.ptr] c0 fun (x18 : Option Pt) =>
  ld [.ptr] c0 fun (x19 : Option Pt) =>
  deref x19 fun q20 =>
  ld [.sl] ⟨q20.b, q20.o + 1⟩ fun (x21 : Sl) =>
  idx x21 x10 5 fun q22 =>
  ld [.int .i64] ⟨q22.b, q22.o + 3⟩ fun (x23 : Int) =>
  call Tryz.prog N_rbtree_Tree_least [.lf (.ptr x18), .lf (.int .i64 x23)] [.lf .sl] fun (r24 : Sl) =>
  app 1 s11 r24 fun s25 =>
  J7 s25) <|
  R ()
theorem sem_rbtree_Tree_All_c1 (yield : Fv) (c0 : Pt) (R : Rs.T [] → WP) : Same (semF Tryz.prog Tryz.f87 (.s (.s .o (.s .o .o)) (.s (.d (.f 0 [1] (.f 1 [1] (.w 2 [9] (.w 3 [8, 10] (.w 4 [11] .fin)))))) (.b (.l [(3, .lf .sl)] (.s (.s .o (.s .o .o)) (.b (.s .o (.s .o (.s (.s .o (.s .o .o)) (.d (.f 0 [3] (.f 1 [1] (.f 2 [1] (.f 6 [4] (.f 3 [39] (.f 4 [40] (.f 5 [41] (.f 7 [42, 43] (.f 8 [44] (.f 9 [45] (.w 10 [38, 46] (.w 11 [37, 47] (.w 12 [48] .fin))))))))))))))))))))))) [.lf (.fn yield), .lf (.ptr (some c0))] [] R) (fun w => W_rbtree_Tree_All_c1 yield c0 R w) := ⟨by kernel_rfl⟩
theorem call_rbtree_Tree_All_c1 (yield : Fv) (c0 : Pt) (R : Rs.T [] → WP) (w : World) (h : W_rbtree_Tree_All_c1 yield c0 R w) :
    CallX Tryz.prog N_rbtree_Tree_All_c1 ([.lf (.fn yield), .lf (.ptr (some c0))].map V1.enc) w fun v w' => ∃ x, v = (retTV (Rs.mk [] x)).enc ∧ R x w' :=
  callX_of_semF Tryz.func87 (by kernel_rfl) (by kernel_rfl) (sem_rbtree_Tree_All_c1 yield c0 R) h


/-- (*canter/rbtree.Tree).Delete -/
def W_rbtree_Tree_Delete (d : Option Pt) (o : Int × Int) (R : Rs.T [.lf (.int .i64)] → WP) : WP :=
  new (Ks.mk [.int .u64, .int .u64] o) fun n1 =>
  ite' d.isNone (
  R (2:Int)) <|
  ld [.int .u64, .int .u64] ⟨n1, 0⟩ fun (x2 : Int × Int) =>
  call Tryz.prog N_rbtree_Tree_way [.lf (.ptr d), .agg (Ks.mk [.int .u64, .int .u64] x2)] [.lf .sl] fun (r3 : Sl) =>
  ld [.int .u64, .int .u64] ⟨n1, 0⟩ fun (x4 : Int × Int) =>
  call Tryz.prog N_rbtree_Tree_found [.lf (.ptr d), .lf (.sl r3), .agg (Ks.mk [.int .u64, .int .u64] x4)] [.lf (.int .i64)] fun (r5 : Int) =>
  ite' (r5 == (-1:Int)) (
  R (7:Int)) <|
  join [.sl, .int .i64] (fun J6 =>
  join [.bool] (fun J8 =>
  deref d fun q10 =>
  ld [.sl] ⟨q10.b, q10.o + 1⟩ fun (x11 : Sl) =>
  idx x11 r5 5 fun q12 =>
  ld [.int .i64] ⟨q12.b, q12.o + 2⟩ fun (x13 : Int) =>
  ite' (x13 != (-1:Int)) (
  deref d fun q14 =>
  ld [.sl] ⟨q14.b, q14.o + 1⟩ fun (x15 : Sl) =>
  idx x15 r5 5 fun q16 =>
  ld [.int .i64] ⟨q16.b, q16.o + 3⟩ fun (x17 : Int) =>
  J8 (x17 != (-1:Int))) <|
  J8 false) fun (y9 : Bool) =>
  ite' y9 (
  deref d fun q18 =>
  ld [.sl] ⟨q18.b, q18.o + 1⟩ fun (x19 : Sl) =>
  idx x19 r5 5 fun q20 =>
  ld [.int .i64] ⟨q20.b, q20.o + 3⟩ fun (x21 : Int) =>
  call Tryz.prog N_rbtree_Tree_least [.lf (.ptr d), .lf (.int .i64 x21)] [.lf .sl] fun (r22 : Sl) =>
  idx r22 (IntKind.i64.wrap (((r22.len : Nat) : Int) - (1:Int))) 1 fun q23 =>
  ld [.int .i64] q23 fun (x24 : Int) =>
  drw <|
  deref d fun q25 =>
  deref d fun q26 =>
  ld [.sl] ⟨q25.b, q25.o + 1⟩ fun (x27 : Sl) =>
  ld [.sl] ⟨q26.b, q26.o + 1⟩ fun (x28 : Sl) =>
  idx x28 x24 5 fun q29 =>
  ld [.int .u64, .int .u64] q29 fun (x30 : Int × Int) =>
  idx x27 r5 5 fun q31 =>
  st q31 (Ks.mk [.int .u64, .int .u64] x30) <|
  app 1 r3 r22 fun s32 =>
  J6 (s32, x24)) <|
  J6 (r3, r5)) fun (y7 : Sl × Int) =>
  deref d fun q33 =>
  ld [.sl] ⟨q33.b, q33.o + 1⟩ fun (x34 : Sl) =>
  idx x34 y7.2 5 fun q35 =>
  ld [.int .i64] ⟨q35.b, q35.o + 2⟩ fun (x36 : Int) =>
  join [.int .i64] (fun J37 =>
  ite' (x36 == (-1:Int)) (
  deref d fun q39 =>
  ld [.sl] ⟨q39.b, q39.o + 1⟩ fun (x40 : Sl) =>
  idx x40 y7.2 5 fun q41 =>
  ld [.int .i64] ⟨q41.b, q41.o + 3⟩ fun (x42 : Int) =>
  J37 x42) <|
  J37 x36) fun (y38 : Int) =>
  slc y7.1 none (some (IntKind.i64.wrap (((y7.1.len : Nat) : Int) - (1:Int)))) none 1 fun s43 =>
  call Tryz.prog N_rbtree_Tree_drop [.lf (.ptr d), .lf (.sl s43), .lf (.int .i64 y7.2), .lf (.int .i64 y38)] [] fun (r44 : Unit) =>
  deref d fun q45 =>
  ld [.int .i64] ⟨q45.b, q45.o + 3⟩ fun (x46 : Int) =>
  deref d fun q47 =>
  st ⟨q47.b, q47.o + 3⟩ [.int .i64 (IntKind.i64.wrap (x46 - (1:Int)))] <|
  deref d fun q48 =>
  ld [.ptr] q48 fun (x49 : Option Pt) =>
  call Tryz.prog N_arena_Arena_Free [.lf (.ptr x49), .lf (.int .i64 y7.2)] [.lf (.int .i64)] fun (r50 : Int) =>
  R r50
theorem sem_rbtree_Tree_Delete (d : Option Pt) (o : Int × Int) (R : Rs.T [.lf (.int .i64)] → WP) : Same (semF Tryz.prog Tryz.f48 (.s .o (.s (.s .o (.s (.s .o .o) .o)) (.s .o (.s .o (.s (.s .o (.s (.s .o .o) .o)) (.j [(5, .lf .sl), (6, .lf (.int .i64))] (.j [(40, .lf .bool)] .o (.s (.s .o (.s .o (.s (.d (.f 0 [0] (.f 4 [6] (.f 5 [0] (.f 9 [8] (.f 1 [57] (.f 6 [62] (.f 2 [58] (.f 7 [63] (.f 3 [59] (.f 8 [64] (.f 10 [65, 66] (.f 11 [67] (.f 12 [68] (.f 13 [60, 61] (.f 14 [70] (.w 15 [69, 71] .fin))))))))))))))))) .o))) .o)) (.s .o (.j [(9, .lf (.int .i64))] (.s .o (.s .o .o)) (.s .o (.s .o (.s .o .o))))))))))) [.lf (.ptr d), .agg (Ks.mk [.int .u64, .int .u64] o)] [.lf (.int .i64)] R) (fun w => W_rbtree_Tree_Delete d o R w) := ⟨by kernel_rfl⟩
theorem call_rbtree_Tree_Delete (d : Option Pt) (o : Int × Int) (R : Rs.T [.lf (.int .i64)] → WP) (w : World) (h : W_rbtree_Tree_Delete d o R w) :
    CallX Tryz.prog N_rbtree_Tree_Delete ([.lf (.ptr d), .agg (Ks.mk [.int .u64, .int .u64] o)].map V1.enc) w fun v w' => ∃ x, v = (retTV (Rs.mk [.lf (.int .i64)] x)).enc ∧ R x w' :=
  callX_of_semF Tryz.func48 (by kernel_rfl) (by kernel_rfl) (sem_rbtree_Tree_Delete d o R) h


/-- (*canter/rbtree.Tree).Insert -/
def W_rbtree_Tree_Insert (d : Option Pt) (o : Int × Int) (R : Rs.T [.lf (.int .i64)] → WP) : WP :=
  new (Ks.mk [.int .u64, .int .u64] o) fun n1 =>
  ite' d.isNone (
  R (2:Int)) <|
  ld [.int .u64, .int .u64] ⟨n1, 0⟩ fun (x2 : Int × Int) =>
  call Tryz.prog N_rbtree_Tree_way [.lf (.ptr d), .agg (Ks.mk [.int .u64, .int .u64] x2)] [.lf .sl] fun (r3 : Sl) =>
  ld [.int .u64, .int .u64] ⟨n1, 0⟩ fun (x4 : Int × Int) =>
  call Tryz.prog N_rbtree_Tree_found [.lf (.ptr d), .lf (.sl r3), .agg (Ks.mk [.int .u64, .int .u64] x4)] [.lf (.int .i64)] fun (r5 : Int) =>
  ite' (r5 != (-1:Int)) (
  R (6:Int)) <|
  drw <|
  deref d fun q6 =>
  deref d fun q7 =>
  ld [.int .i64] ⟨q6.b, q6.o + 3⟩ fun (x8 : Int) =>
  ld [.int .i64] ⟨q7.b, q7.o + 4⟩ fun (x9 : Int) =>
  ite' (decide (x8 ≥ x9)) (
  R (5:Int)) <|
  deref d fun q10 =>
  ld [.ptr] q10 fun (x11 : Option Pt) =>
  call Tryz.prog N_arena_Arena_Get [.lf (.ptr x11)] [.lf (.int .i64), .lf (.int .i64)] fun (r12 : Int × Int) =>
  ite' (r12.2 != (0:Int)) (
  R r12.2) <|
  join [] (fun J13 =>
  deref d fun q15 =>
  ld [.sl] ⟨q15.b, q15.o + 1⟩ fun (x16 : Sl) =>
  ite' (r12.1 == ((x16.len : Nat) : Int)) (
  deref d fun q17 =>
  ld [.sl] ⟨q17.b, q17.o + 1⟩ fun (x18 : Sl) =>
  new [.int .u64 (0:Int), .int .u64 (0:Int), .int .i64 (0:Int), .int .i64 (0:Int), .int .i64 (0:Int)] fun n19 =>
  app 5 x18 ⟨some ⟨n19, 0⟩, 1, 1⟩ fun s20 =>
  deref d fun q21 =>
  st ⟨q21.b, q21.o + 1⟩ [.sl s20] <|
  J13 ()) <|
  J13 ()) fun (y14 : Unit) =>
  drw <|
  ld [.int .u64, .int .u64] ⟨n1, 0⟩ fun (x22 : Int × Int) =>
  deref d fun q23 =>
  ld [.sl] ⟨q23.b, q23.o + 1⟩ fun (x24 : Sl) =>
  idx x24 r12.1 5 fun q25 =>
  st q25 [.int .u64 x22.1, .int .u64 x22.2, .int .i64 (-1:Int), .int .i64 (-1:Int), .int .i64 (1:Int)] <|
  deref d fun q26 =>
  ld [.int .i64] ⟨q26.b, q26.o + 3⟩ fun (x27 : Int) =>
  deref d fun q28 =>
  st ⟨q28.b, q28.o + 3⟩ [.int .i64 (IntKind.i64.wrap (x27 + (1:Int)))] <|
  call Tryz.prog N_rbtree_Tree_hang [.lf (.ptr d), .lf (.sl r3), .lf (.int .i64 (-1:Int)), .lf (.int .i64 r12.1)] [] fun (r29 : Unit) =>
  R (0:Int)
theorem sem_rbtree_Tree_Insert (d : Option Pt) (o : Int × Int) (R : Rs.T [.lf (.int .i64)] → WP) : Same (semF Tryz.prog Tryz.f32 (.s .o (.s (.s .o (.s (.s .o .o) .o)) (.s .o (.s (.b (.s .o (.s (.s .o .o) (.s (.d (.f 0 [0] (.f 4 [0] (.f 1 [20] (.f 5 [24] (.f 2 [21] (.f 6 [25] (.f 3 [22] (.f 7 [26] (.f 8 [23, 27] (.w 9 [28] .fin))))))))))) (.s (.s .o .o) .o))))) (.s .o (.s (.s .o (.s (.s .o .o) .o)) (.j [] (.s .o (.s .o .o)) (.s (.d (.f 0 [0] (.f 4 [6] (.f 5 [3] (.f 1 [57] (.f 6 [62] (.f 2 [58] (.f 3 [59] (.f 7 [60, 61] (.w 8 [63, 64] .fin)))))))))) (.s .o (.s .o (.s .o .o))))))))))) [.lf (.ptr d), .agg (Ks.mk [.int .u64, .int .u64] o)] [.lf (.int .i64)] R) (fun w => W_rbtree_Tree_Insert d o R w) := ⟨by kernel_rfl⟩
theorem call_rbtree_Tree_Insert (d : Option Pt) (o : Int × Int) (R : Rs.T [.lf (.int .i64)] → WP) (w : World) (h : W_rbtree_Tree_Insert d o R w) :
    CallX Tryz.prog N_rbtree_Tree_Insert ([.lf (.ptr d), .agg (Ks.mk [.int .u64, .int .u64] o)].map V1.enc) w fun v w' => ∃ x, v = (retTV (Rs.mk [.lf (.int .i64)] x)).enc ∧ R x w' :=
  callX_of_semF Tryz.func32 (by kernel_rfl) (by kernel_rfl) (sem_rbtree_Tree_Insert d o R) h


/-- (*canter/rbtree.Tree).Min -/
def W_rbtree_Tree_Min (n0 : Nat) (t : Option Pt) (R : Rs.T [.agg [.int .u64, .int .u64], .lf .bool] → WP) : WP :=
  new [.int .u64 (0:Int), .int .u64 (0:Int)] fun n1 =>
  new [.bool false] fun n2 =>
  join [] (fun J3 =>
  call Tryz.prog N_rbtree_Tree_All [.lf (.ptr t)] [.lf .fn] fun (r5 : Fv) =>
  rangeF Tryz.prog r5 [.agg [.int .u64, .int .u64]] (fun (v6 : (Int × Int)) mid7 next8 jump9 =>
  new [.int .u64 (0:Int), .int .u64 (0:Int)] fun n10 =>
  st ⟨n10, 0⟩ (Ks.mk [.int .u64, .int .u64] v6) <|
  mid7 <|
  ld [.int .u64, .int .u64] ⟨n10, 0⟩ fun (x11 : Int × Int) =>
  st ⟨n1, 0⟩ (Ks.mk [.int .u64, .int .u64] x11) <|
  st ⟨n2, 0⟩ [.bool true] <|
  jump9 1) fun i12 => isBy 0 i12 (J3 ()) <|
  isBy 1 i12 (ld [.int .u64, .int .u64] ⟨n1, 0⟩ fun (x13 : Int × Int) =>
  ld [.bool] ⟨n2, 0⟩ fun (x14 : Bool) =>
  leave n0 <| R (x13, x14)) <|
  wno) fun (y4 : Unit) =>
  st ⟨n1, 0⟩ [.int .u64 (0:Int), .int .u64 (0:Int)] <|
  st ⟨n2, 0⟩ [.bool false] <|
  ld [.int .u64, .int .u64] ⟨n1, 0⟩ fun (x15 : Int × Int) =>
  ld [.bool] ⟨n2, 0⟩ fun (x16 : Bool) =>
  leave n0 <| R (x15, x16)
theorem sem_rbtree_Tree_Min (t : Option Pt) (R : Rs.T [.agg [.int .u64, .int .u64], .lf .bool] → WP) : Same (semF Tryz.prog Tryz.f86 (.s .o (.j [] (.s .o (.b (.r [.agg [.int .u64, .int .u64]] .o (.b (.s .o .o))))) (.s .o .o))) [.lf (.ptr t)] [.agg [.int .u64, .int .u64], .lf .bool] R) (fun w => W_rbtree_Tree_Min w.heap.size t R w) := ⟨by kernel_rfl⟩
theorem call_rbtree_Tree_Min (t : Option Pt) (R : Rs.T [.agg [.int .u64, .int .u64], .lf .bool] → WP) (w : World) (h : W_rbtree_Tree_Min w.heap.size t R w) :
    CallX Tryz.prog N_rbtree_Tree_Min ([.lf (.ptr t)].map V1.enc) w fun v w' => ∃ x, v = (retTV (Rs.mk [.agg [.int .u64, .int .u64], .lf .bool] x)).enc ∧ R x w' :=
  callX_of_semF Tryz.func86 (by kernel_rfl) (by kernel_rfl) (sem_rbtree_Tree_Min t R) h


/-- (*canter/rbtree.Tree).drop -/
def W_rbtree_Tree_drop (t : Option Pt) (way : Sl) (was : Int) (i : Int) (R : Rs.T [] → WP) : WP :=
  loop K_i3 (was, i, (IntKind.i64.wrap (((way.len : Nat) : Int) - (1:Int)))) fun J1 (y2 : T_i3) =>
  ite' (decide (y2.2.2 ≥ (0:Int))) (
  idx way y2.2.2 1 fun q3 =>
  ld [.int .i64] q3 fun (x4 : Int) =>
  deref t fun q5 =>
  ld [.sl] ⟨q5.b, q5.o + 1⟩ fun (x6 : Sl) =>
  idx x6 x4 5 fun q7 =>
  ld [.int .i64] ⟨q7.b, q7.o + 2⟩ fun (x8 : Int) =>
  ite' (x8 == y2.1) (
  deref t fun q9 =>
  ld [.sl] ⟨q9.b, q9.o + 1⟩ fun (x10 : Sl) =>
  idx x10 x4 5 fun q11 =>
  st ⟨q11.b, q11.o + 2⟩ [.int .i64 y2.2.1] <|
  call Tryz.prog N_rbtree_Tree_even [.lf (.ptr t), .lf (.int .i64 x4)] [.lf (.int .i64)] fun (r12 : Int) =>
  J1 (x4, r12, (IntKind.i64.wrap (y2.2.2 - (1:Int))))) <|
  deref t fun q13 =>
  ld [.sl] ⟨q13.b, q13.o + 1⟩ fun (x14 : Sl) =>
  idx x14 x4 5 fun q15 =>
  st ⟨q15.b, q15.o + 3⟩ [.int .i64 y2.2.1] <|
  call Tryz.prog N_rbtree_Tree_even [.lf (.ptr t), .lf (.int .i64 x4)] [.lf (.int .i64)] fun (r16 : Int) =>
  J1 (x4, r16, (IntKind.i64.wrap (y2.2.2 - (1:Int))))) <|
  deref t fun q17 =>
  st ⟨q17.b, q17.o + 2⟩ [.int .i64 (IntKind.i64.wrap (y2.2.1 + (1:Int)))] <|
  R ()
theorem sem_rbtree_Tree_drop (t : Option Pt) (way : Sl) (was : Int) (i : Int) (R : Rs.T [] → WP) : Same (semF Tryz.prog Tryz.f79 (.s (.s .o (.b (.l [(2, .lf (.int .i64)), (3, .lf (.int .i64)), (8, .lf (.int .i64))] (.s (.s .o (.s .o .o)) (.s (.b (.s .o (.s (.s .o (.s .o .o)) .o))) .o))))) .o) [.lf (.ptr t), .lf (.sl way), .lf (.int .i64 was), .lf (.int .i64 i)] [] R) (fun w => W_rbtree_Tree_drop t way was i R w) := ⟨by kernel_rfl⟩
theorem call_rbtree_Tree_drop (t : Option Pt) (way : Sl) (was : Int) (i : Int) (R : Rs.T [] → WP) (w : World) (h : W_rbtree_Tree_drop t way was i R w) :
    CallX Tryz.prog N_rbtree_Tree_drop ([.lf (.ptr t), .lf (.sl way), .lf (.int .i64 was), .lf (.int .i64 i)].map V1.enc) w fun v w' => ∃ x, v = (retTV (Rs.mk [] x)).enc ∧ R x w' :=
  callX_of_semF Tryz.func79 (by kernel_rfl) (by kernel_rfl) (sem_rbtree_Tree_drop t way was i R) h


/-- (*canter/rbtree.Tree).even -/
def W_rbtree_Tree_even (d : Option Pt) (o : Int) (R : Rs.T [.lf (.int .i64)] → WP) : WP :=
  call Tryz.prog N_rbtree_Tree_mend [.lf (.ptr d), .lf (.int .i64 o)] [] fun (r1 : Unit) =>
  call Tryz.prog N_rbtree_Tree_lean [.lf (.ptr d), .lf (.int .i64 o)] [.lf (.int .i64)] fun (r2 : Int) =>
  ite' (decide (r2 > (1:Int))) (
  deref d fun q3 =>
  ld [.sl] ⟨q3.b, q3.o + 1⟩ fun (x4 : Sl) =>
  idx x4 o 5 fun q5 =>
  ld [.int .i64] ⟨q5.b, q5.o + 2⟩ fun (x6 : Int) =>
  call Tryz.prog N_rbtree_Tree_lean [.lf (.ptr d), .lf (.int .i64 x6)] [.lf (.int .i64)] fun (r7 : Int) =>
  ite' (decide (r7 < (0:Int))) (
  drw <|
  deref d fun q8 =>
  deref d fun q9 =>
  ld [.sl] ⟨q8.b, q8.o + 1⟩ fun (x10 : Sl) =>
  ld [.sl] ⟨q9.b, q9.o + 1⟩ fun (x11 : Sl) =>
  idx x11 o 5 fun q12 =>
  ld [.int .i64] ⟨q12.b, q12.o + 2⟩ fun (x13 : Int) =>
  call Tryz.prog N_rbtree_Tree_turnLeft [.lf (.ptr d), .lf (.int .i64 x13)] [.lf (.int .i64)] fun (r14 : Int) =>
  chk ⟨q8.b, q8.o + 1⟩ (Ks.mk [.sl] x10) <|
  idx x10 o 5 fun q15 =>
  st ⟨q15.b, q15.o + 2⟩ [.int .i64 r14] <|
  call Tryz.prog N_rbtree_Tree_turnRight [.lf (.ptr d), .lf (.int .i64 o)] [.lf (.int .i64)] fun (r16 : Int) =>
  R r16) <|
  call Tryz.prog N_rbtree_Tree_turnRight [.lf (.ptr d), .lf (.int .i64 o)] [.lf (.int .i64)] fun (r17 : Int) =>
  R r17) <|
  ite' (decide (r2 < (-1:Int))) (
  deref d fun q18 =>
  ld [.sl] ⟨q18.b, q18.o + 1⟩ fun (x19 : Sl) =>
  idx x19 o 5 fun q20 =>
  ld [.int .i64] ⟨q20.b, q20.o + 3⟩ fun (x21 : Int) =>
  call Tryz.prog N_rbtree_Tree_lean [.lf (.ptr d), .lf (.int .i64 x21)] [.lf (.int .i64)] fun (r22 : Int) =>
  ite' (decide (r22 > (0:Int))) (
  drw <|
  deref d fun q23 =>
  deref d fun q24 =>
  ld [.sl] ⟨q23.b, q23.o + 1⟩ fun (x25 : Sl) =>
  ld [.sl] ⟨q24.b, q24.o + 1⟩ fun (x26 : Sl) =>
  idx x26 o 5 fun q27 =>
  ld [.int .i64] ⟨q27.b, q27.o + 3⟩ fun (x28 : Int) =>
  call Tryz.prog N_rbtree_Tree_turnRight [.lf (.ptr d), .lf (.int .i64 x28)] [.lf (.int .i64)] fun (r29 : Int) =>
  chk ⟨q23.b, q23.o + 1⟩ (Ks.mk [.sl] x25) <|
  idx x25 o 5 fun q30 =>
  st ⟨q30.b, q30.o + 3⟩ [.int .i64 r29] <|
  call Tryz.prog N_rbtree_Tree_turnLeft [.lf (.ptr d), .lf (.int .i64 o)] [.lf (.int .i64)] fun (r31 : Int) =>
  R r31) <|
  call Tryz.prog N_rbtree_Tree_turnLeft [.lf (.ptr d), .lf (.int .i64 o)] [.lf (.int .i64)] fun (r32 : Int) =>
  R r32) <|
  R o
theorem sem_rbtree_Tree_even (d : Option Pt) (o : Int) (R : Rs.T [.lf (.int .i64)] → WP) : Same (semF Tryz.prog Tryz.f92 (.s .o (.s .o (.s (.s .o (.b (.s .o (.s (.s (.s .o (.s (.d (.f 0 [0] (.f 4 [1] (.f 5 [0] (.f 6 [0] (.f 10 [1] (.f 1 [26] (.f 7 [32] (.f 2 [27] (.f 8 [33] (.f 3 [28] (.f 9 [34] (.f 11 [35, 36] (.f 12 [37] (.f 13 [38] (.w 14 [31, 39] (.f 15 [29, 30] (.f 16 [41] (.w 17 [40, 42] .fin))))))))))))))))))) .o)) (.s .o .o)) (.s .o (.s (.s (.s .o (.s (.d (.f 0 [0] (.f 4 [1] (.f 5 [0] (.f 6 [0] (.f 10 [1] (.f 1 [60] (.f 7 [66] (.f 2 [61] (.f 8 [67] (.f 3 [62] (.f 9 [68] (.f 11 [69, 70] (.f 12 [71] (.f 13 [72] (.w 14 [65, 73] (.f 15 [63, 64] (.f 16 [75] (.w 17 [74, 76] .fin))))))))))))))))))) .o)) (.s .o .o)) .o)))))) (.s .o .o)))) [.lf (.ptr d), .lf (.int .i64 o)] [.lf (.int .i64)] R) (fun w => W_rbtree_Tree_even d o R w) := ⟨by kernel_rfl⟩
theorem call_rbtree_Tree_even (d : Option Pt) (o : Int) (R : Rs.T [.lf (.int .i64)] → WP) (w : World) (h : W_rbtree_Tree_even d o R w) :
    CallX Tryz.prog N_rbtree_Tree_even ([.lf (.ptr d), .lf (.int .i64 o)].map V1.enc) w fun v w' => ∃ x, v = (retTV (Rs.mk [.lf (.int .i64)] x)).enc ∧ R x w' :=
  callX_of_semF Tryz.func92 (by kernel_rfl) (by kernel_rfl) (sem_rbtree_Tree_even d o R) h


/-- (*canter/rbtree.Tree).found -/
def W_rbtree_Tree_found (t : Option Pt) (way : Sl) (k : Int × Int) (R : Rs.T [.lf (.int .i64)] → WP) : WP :=
  new (Ks.mk [.int .u64, .int .u64] k) fun n1 =>
  join [.bool] (fun J2 =>
  drw <|
  ite' (decide (((way.len : Nat) : Int) > (0:Int))) (
  ld [.int .u64, .int .u64] ⟨n1, 0⟩ fun (x4 : Int × Int) =>
  deref t fun q5 =>
  idx way (IntKind.i64.wrap (((way.len : Nat) : Int) - (1:Int))) 1 fun q6 =>
  ld [.sl] ⟨q5.b, q5.o + 1⟩ fun (x7 : Sl) =>
  ld [.int .i64] q6 fun (x8 : Int) =>
  idx x7 x8 5 fun q9 =>
  ld [.int .u64, .int .u64] q9 fun (x10 : Int × Int) =>
  J2 ((x10.1 == x4.1) && (x10.2 == x4.2))) <|
  J2 false) fun (y3 : Bool) =>
  ite' y3 (
  idx way (IntKind.i64.wrap (((way.len : Nat) : Int) - (1:Int))) 1 fun q11 =>
  ld [.int .i64] q11 fun (x12 : Int) =>
  R x12) <|
  R (-1:Int)
theorem sem_rbtree_Tree_found (t : Option Pt) (way : Sl) (k : Int × Int) (R : Rs.T [.lf (.int .i64)] → WP) : Same (semF Tryz.prog Tryz.f68 (.s .o (.s (.s .o (.j [(27, .lf .bool)] (.d (.f 0 [7] (.f 1 [10] (.f 2 [11] (.f 3 [0, 12] (.f 7 [1, 12] (.f 8 [7, 12] (.f 15 [5, 12] (.f 4 [12, 13] (.f 9 [12, 18] (.f 5 [12, 14] (.f 10 [12, 17, 19] (.f 6 [12, 15] (.f 11 [12, 20] (.f 12 [12, 16, 21] (.f 13 [12, 22] (.f 14 [12, 23] (.f 16 [12, 24, 25] (.f 17 [12, 26] .fin))))))))))))))))))) (.s (.s .o .o) .o))) (.s .o .o))) [.lf (.ptr t), .lf (.sl way), .agg (Ks.mk [.int .u64, .int .u64] k)] [.lf (.int .i64)] R) (fun w => W_rbtree_Tree_found t way k R w) := ⟨by kernel_rfl⟩
theorem call_rbtree_Tree_found (t : Option Pt) (way : Sl) (k : Int × Int) (R : Rs.T [.lf (.int .i64)] → WP) (w : World) (h : W_rbtree_Tree_found t way k R w) :
    CallX Tryz.prog N_rbtree_Tree_found ([.lf (.ptr t), .lf (.sl way), .agg (Ks.mk [.int .u64, .int .u64] k)].map V1.enc) w fun v w' => ∃ x, v = (retTV (Rs.mk [.lf (.int .i64)] x)).enc ∧ R x w' :=
  callX_of_semF Tryz.func68 (by kernel_rfl) (by kernel_rfl) (sem_rbtree_Tree_found t way k R) h


/-- (*canter/rbtree.Tree).hang -/
def W_rbtree_Tree_hang (d : Option Pt) (o : Sl) (a : Int) (a' : Int) (R : Rs.T [] → WP) : WP :=
  loop K_i3 (a, a', (IntKind.i64.wrap (((o.len : Nat) : Int) - (1:Int)))) fun J1 (y2 : T_i3) =>
  ite' (decide (y2.2.2 ≥ (0:Int))) (
  idx o y2.2.2 1 fun q3 =>
  ld [.int .i64] q3 fun (x4 : Int) =>
  join [.bool] (fun J5 =>
  drw <|
  deref d fun q7 =>
  ld [.sl] ⟨q7.b, q7.o + 1⟩ fun (x8 : Sl) =>
  idx x8 x4 5 fun q9 =>
  ld [.int .i64] ⟨q9.b, q9.o + 2⟩ fun (x10 : Int) =>
  ite' (x10 == y2.1) (
  ite' (y2.1 != (-1:Int)) (
  J5 true) <|
  deref d fun q11 =>
  deref d fun q12 =>
  ld [.sl] ⟨q11.b, q11.o + 1⟩ fun (x13 : Sl) =>
  ld [.sl] ⟨q12.b, q12.o + 1⟩ fun (x14 : Sl) =>
  idx x13 y2.2.1 5 fun q15 =>
  idx x14 x4 5 fun q16 =>
  ld [.int .u64, .int .u64] q15 fun (x17 : Int × Int) =>
  ld [.int .u64, .int .u64] q16 fun (x18 : Int × Int) =>
  call Tryz.prog N_rbtree_compare [.agg (Ks.mk [.int .u64, .int .u64] x17), .agg (Ks.mk [.int .u64, .int .u64] x18)] [.lf (.int .i64)] fun (r19 : Int) =>
  J5 (decide (r19 < (0:Int)))) <|
  J5 false) fun (y6 : Bool) =>
  ite' y6 (
  deref d fun q20 =>
  ld [.sl] ⟨q20.b, q20.o + 1⟩ fun (x21 : Sl) =>
  idx x21 x4 5 fun q22 =>
  st ⟨q22.b, q22.o + 2⟩ [.int .i64 y2.2.1] <|
  call Tryz.prog N_rbtree_Tree_even [.lf (.ptr d), .lf (.int .i64 x4)] [.lf (.int .i64)] fun (r23 : Int) =>
  J1 (x4, r23, (IntKind.i64.wrap (y2.2.2 - (1:Int))))) <|
  deref d fun q24 =>
  ld [.sl] ⟨q24.b, q24.o + 1⟩ fun (x25 : Sl) =>
  idx x25 x4 5 fun q26 =>
  st ⟨q26.b, q26.o + 3⟩ [.int .i64 y2.2.1] <|
  call Tryz.prog N_rbtree_Tree_even [.lf (.ptr d), .lf (.int .i64 x4)] [.lf (.int .i64)] fun (r27 : Int) =>
  J1 (x4, r27, (IntKind.i64.wrap (y2.2.2 - (1:Int))))) <|
  deref d fun q28 =>
  st ⟨q28.b, q28.o + 2⟩ [.int .i64 (IntKind.i64.wrap (y2.2.1 + (1:Int)))] <|
  R ()
theorem sem_rbtree_Tree_hang (d : Option Pt) (o : Sl) (a : Int) (a' : Int) (R : Rs.T [] → WP) : Same (semF Tryz.prog Tryz.f70 (.s (.s .o (.b (.l [(2, .lf (.int .i64)), (3, .lf (.int .i64)), (8, .lf (.int .i64))] (.s (.s .o (.s .o .o)) (.s (.b (.s .o (.s (.j [(54, .lf .bool)] (.d (.f 0 [0] (.f 4 [9] (.f 8 [2] (.f 1 [21] (.f 2 [22] (.f 3 [23] (.f 5 [24, 25] (.f 6 [26] (.f 7 [27] (.f 9 [28, 29] (.f 10 [30] (.f 11 [2, 31] (.f 12 [31, 32] (.f 13 [31, 33] (.f 14 [0, 34] (.f 18 [3, 34] (.f 22 [0, 34] (.f 26 [9, 34] (.f 15 [34, 35] (.f 23 [34, 43] (.f 16 [34, 36] (.f 24 [34, 44] (.f 17 [34, 37] (.f 25 [34, 45] (.f 19 [34, 38, 39] (.f 27 [34, 46, 47] (.f 20 [34, 40] (.f 28 [34, 48] (.f 21 [34, 41] (.f 29 [34, 49] (.w 30 [34, 42, 50] (.f 31 [34, 51] (.f 32 [31, 34, 52] (.f 33 [31, 53] .fin))))))))))))))))))))))))))))))))))) (.s .o .o)) .o))) .o))))) .o) [.lf (.ptr d), .lf (.sl o), .lf (.int .i64 a), .lf (.int .i64 a')] [] R) (fun w => W_rbtree_Tree_hang d o a a' R w) := ⟨by kernel_rfl⟩
theorem call_rbtree_Tree_hang (d : Option Pt) (o : Sl) (a : Int) (a' : Int) (R : Rs.T [] → WP) (w : World) (h : W_rbtree_Tree_hang d o a a' R w) :
    CallX Tryz.prog N_rbtree_Tree_hang ([.lf (.ptr d), .lf (.sl o), .lf (.int .i64 a), .lf (.int .i64 a')].map V1.enc) w fun v w' => ∃ x, v = (retTV (Rs.mk [] x)).enc ∧ R x w' :=
  callX_of_semF Tryz.func70 (by kernel_rfl) (by kernel_rfl) (sem_rbtree_Tree_hang d o a a' R) h


/-- (*canter/rbtree.Tree).high -/
def W_rbtree_Tree_high (t : Option Pt) (i : Int) (R : Rs.T [.lf (.int .i64)] → WP) : WP :=
  ite' (i == (-1:Int)) (
  R (0:Int)) <|
  deref t fun q1 =>
  ld [.sl] ⟨q1.b, q1.o + 1⟩ fun (x2 : Sl) =>
  idx x2 i 5 fun q3 =>
  ld [.int .i64] ⟨q3.b, q3.o + 4⟩ fun (x4 : Int) =>
  R x4
theorem sem_rbtree_Tree_high (t : Option Pt) (i : Int) (R : Rs.T [.lf (.int .i64)] → WP) : Same (semF Tryz.prog Tryz.f110 (.s .o (.s (.s .o (.s (.s .o .o) .o)) (.s .o .o))) [.lf (.ptr t), .lf (.int .i64 i)] [.lf (.int .i64)] R) (fun w => W_rbtree_Tree_high t i R w) := ⟨by kernel_rfl⟩
theorem call_rbtree_Tree_high (t : Option Pt) (i : Int) (R : Rs.T [.lf (.int .i64)] → WP) (w : World) (h : W_rbtree_Tree_high t i R w) :
    CallX Tryz.prog N_rbtree_Tree_high ([.lf (.ptr t), .lf (.int .i64 i)].map V1.enc) w fun v w' => ∃ x, v = (retTV (Rs.mk [.lf (.int .i64)] x)).enc ∧ R x w' :=
  callX_of_semF Tryz.func110 (by kernel_rfl) (by kernel_rfl) (sem_rbtree_Tree_high t i R) h


/-- (*canter/rbtree.Tree).lean -/
def W_rbtree_Tree_lean (t : Option Pt) (i : Int) (R : Rs.T [.lf (.int .i64)] → WP) : WP :=
  drw <|
  deref t fun q1 =>
  deref t fun q2 =>
  ld [.sl] ⟨q1.b, q1.o + 1⟩ fun (x3 : Sl) =>
  ld [.sl] ⟨q2.b, q2.o + 1⟩ fun (x4 : Sl) =>
  idx x3 i 5 fun q5 =>
  idx x4 i 5 fun q6 =>
  ld [.int .i64] ⟨q5.b, q5.o + 2⟩ fun (x7 : Int) =>
  ld [.int .i64] ⟨q6.b, q6.o + 3⟩ fun (x8 : Int) =>
  call Tryz.prog N_rbtree_Tree_high [.lf (.ptr t), .lf (.int .i64 x7)] [.lf (.int .i64)] fun (r9 : Int) =>
  chk ⟨q6.b, q6.o + 3⟩ (Ks.mk [.int .i64] x8) <|
  chk ⟨q2.b, q2.o + 1⟩ (Ks.mk [.sl] x4) <|
  call Tryz.prog N_rbtree_Tree_high [.lf (.ptr t), .lf (.int .i64 x8)] [.lf (.int .i64)] fun (r10 : Int) =>
  R (IntKind.i64.wrap (r9 - r10))
theorem sem_rbtree_Tree_lean (t : Option Pt) (i : Int) (R : Rs.T [.lf (.int .i64)] → WP) : Same (semF Tryz.prog Tryz.f104 (.s .o (.s (.d (.f 0 [0] (.f 1 [0] (.f 5 [1] (.f 10 [0] (.f 11 [0] (.f 15 [1] (.f 2 [6] (.f 12 [16] (.f 3 [7] (.f 13 [17] (.f 4 [8] (.f 14 [18] (.f 6 [9, 10] (.f 16 [19, 20] (.f 7 [11] (.f 17 [21] (.f 8 [12] (.f 18 [22] (.w 9 [5, 13] (.w 19 [15, 23] (.f 20 [14, 24] (.w 21 [25] .fin))))))))))))))))))))))) .o)) [.lf (.ptr t), .lf (.int .i64 i)] [.lf (.int .i64)] R) (fun w => W_rbtree_Tree_lean t i R w) := ⟨by kernel_rfl⟩
theorem call_rbtree_Tree_lean (t : Option Pt) (i : Int) (R : Rs.T [.lf (.int .i64)] → WP) (w : World) (h : W_rbtree_Tree_lean t i R w) :
    CallX Tryz.prog N_rbtree_Tree_lean ([.lf (.ptr t), .lf (.int .i64 i)].map V1.enc) w fun v w' => ∃ x, v = (retTV (Rs.mk [.lf (.int .i64)] x)).enc ∧ R x w' :=
  callX_of_semF Tryz.func104 (by kernel_rfl) (by kernel_rfl) (sem_rbtree_Tree_lean t i R) h


/-- (*canter/rbtree.Tree).least -/
def W_rbtree_Tree_least (t : Option Pt) (i : Int) (R : Rs.T [.lf .sl] → WP) : WP :=
  loop [.int .i64, .sl] (i, ⟨none, 0, 0⟩) fun J1 (y2 : Int × Sl) =>
  ite' (y2.1 != (-1:Int)) (
  new [.int .i64 y2.1] fun n3 =>
  app 1 y2.2 ⟨some ⟨n3, 0⟩, 1, 1⟩ fun s4 =>
  deref t fun q5 =>
  ld [.sl] ⟨q5.b, q5.o + 1⟩ fun (x6 : Sl) =>
  idx x6 y2.1 5 fun q7 =>
  ld [.int .i64] ⟨q7.b, q7.o + 2⟩ fun (x8 : Int) =>
  J1 (x8, s4)) <|
  R y2.2
theorem sem_rbtree_Tree_least (t : Option Pt) (i : Int) (R : Rs.T [.lf .sl] → WP) : Same (semF Tryz.prog Tryz.f78 (.s .o (.s .o (.s (.b (.l [(1, .lf (.int .i64)), (5, .lf .sl)] (.s (.s .o (.s .o .o)) (.s (.b .o) .o)))) (.s .o .o)))) [.lf (.ptr t), .lf (.int .i64 i)] [.lf .sl] R) (fun w => W_rbtree_Tree_least t i R w) := ⟨by kernel_rfl⟩
theorem call_rbtree_Tree_least (t : Option Pt) (i : Int) (R : Rs.T [.lf .sl] → WP) (w : World) (h : W_rbtree_Tree_least t i R w) :
    CallX Tryz.prog N_rbtree_Tree_least ([.lf (.ptr t), .lf (.int .i64 i)].map V1.enc) w fun v w' => ∃ x, v = (retTV (Rs.mk [.lf .sl] x)).enc ∧ R x w' :=
  callX_of_semF Tryz.func78 (by kernel_rfl) (by kernel_rfl) (sem_rbtree_Tree_least t i R) h


/-- (*canter/rbtree.Tree).mend -/
def W_rbtree_Tree_mend (t : Option Pt) (i : Int) (R : Rs.T [] → WP) : WP :=
  deref t fun q1 =>
  ld [.sl] ⟨q1.b, q1.o + 1⟩ fun (x2 : Sl) =>
  idx x2 i 5 fun q3 =>
  drw <|
  deref (some q3) fun q4 =>
  deref (some q3) fun q5 =>
  ld [.int .i64] ⟨q4.b, q4.o + 2⟩ fun (x6 : Int) =>
  ld [.int .i64] ⟨q5.b, q5.o + 3⟩ fun (x7 : Int) =>
  call Tryz.prog N_rbtree_Tree_high [.lf (.ptr t), .lf (.int .i64 x6)] [.lf (.int .i64)] fun (r8 : Int) =>
  chk ⟨q5.b, q5.o + 3⟩ (Ks.mk [.int .i64] x7) <|
  call Tryz.prog N_rbtree_Tree_high [.lf (.ptr t), .lf (.int .i64 x7)] [.lf (.int .i64)] fun (r9 : Int) =>
  deref (some q3) fun q10 =>
  st ⟨q10.b, q10.o + 4⟩ [.int .i64 (IntKind.i64.wrap ((if r9 > r8 then r9 else r8) + (1:Int)))] <|
  R ()
theorem sem_rbtree_Tree_mend (t : Option Pt) (i : Int) (R : Rs.T [] → WP) : Same (semF Tryz.prog Tryz.f103 (.s .o (.d (.f 0 [4] (.f 1 [0] (.f 2 [4] (.f 7 [0] (.f 8 [4] (.f 3 [13] (.f 9 [19] (.f 4 [14] (.f 10 [20] (.f 5 [15] (.f 11 [21] (.w 6 [12, 16] (.w 12 [18, 22] (.f 13 [17, 23] (.f 14 [24] (.f 15 [11] (.f 16 [26] (.w 17 [25, 27] .fin)))))))))))))))))))) [.lf (.ptr t), .lf (.int .i64 i)] [] R) (fun w => W_rbtree_Tree_mend t i R w) := ⟨by kernel_rfl⟩
theorem call_rbtree_Tree_mend (t : Option Pt) (i : Int) (R : Rs.T [] → WP) (w : World) (h : W_rbtree_Tree_mend t i R w) :
    CallX Tryz.prog N_rbtree_Tree_mend ([.lf (.ptr t), .lf (.int .i64 i)].map V1.enc) w fun v w' => ∃ x, v = (retTV (Rs.mk [] x)).enc ∧ R x w' :=
  callX_of_semF Tryz.func103 (by kernel_rfl) (by kernel_rfl) (sem_rbtree_Tree_mend t i R) h


/-- (*canter/rbtree.Tree).root -/
def W_rbtree_Tree_root (t : Option Pt) (R : Rs.T [.lf (.int .i64)] → WP) : WP :=
  ite' t.isNone (
  R (-1:Int)) <|
  deref t fun q1 =>
  ld [.int .i64] ⟨q1.b, q1.o + 2⟩ fun (x2 : Int) =>
  R (IntKind.i64.wrap (x2 - (1:Int)))
theorem sem_rbtree_Tree_root (t : Option Pt) (R : Rs.T [.lf (.int .i64)] → WP) : Same (semF Tryz.prog Tryz.f88 (.s .o (.s (.s .o (.s (.s .o .o) .o)) (.s .o .o))) [.lf (.ptr t)] [.lf (.int .i64)] R) (fun w => W_rbtree_Tree_root t R w) := ⟨by kernel_rfl⟩
theorem call_rbtree_Tree_root (t : Option Pt) (R : Rs.T [.lf (.int .i64)] → WP) (w : World) (h : W_rbtree_Tree_root t R w) :
    CallX Tryz.prog N_rbtree_Tree_root ([.lf (.ptr t)].map V1.enc) w fun v w' => ∃ x, v = (retTV (Rs.mk [.lf (.int .i64)] x)).enc ∧ R x w' :=
  callX_of_semF Tryz.func88 (by kernel_rfl) (by kernel_rfl) (sem_rbtree_Tree_root t R) h


/-- (*canter/rbtree.Tree).turnLeft -/
def W_rbtree_Tree_turnLeft (t : Option Pt) (i : Int) (R : Rs.T [.lf (.int .i64)] → WP) : WP :=
  deref t fun q1 =>
  ld [.sl] ⟨q1.b, q1.o + 1⟩ fun (x2 : Sl) =>
  idx x2 i 5 fun q3 =>
  ld [.int .i64] ⟨q3.b, q3.o + 3⟩ fun (x4 : Int) =>
  drw <|
  deref t fun q5 =>
  deref t fun q6 =>
  deref t fun q7 =>
  ld [.sl] ⟨q5.b, q5.o + 1⟩ fun (x8 : Sl) =>
  ld [.sl] ⟨q6.b, q6.o + 1⟩ fun (x9 : Sl) =>
  ld [.sl] ⟨q7.b, q7.o + 1⟩ fun (x10 : Sl) =>
  idx x10 x4 5 fun q11 =>
  ld [.int .i64] ⟨q11.b, q11.o + 2⟩ fun (x12 : Int) =>
  idx x8 i 5 fun q13 =>
  st ⟨q13.b, q13.o + 3⟩ [.int .i64 x12] <|
  idx x9 x4 5 fun q14 =>
  st ⟨q14.b, q14.o + 2⟩ [.int .i64 i] <|
  call Tryz.prog N_rbtree_Tree_mend [.lf (.ptr t), .lf (.int .i64 i)] [] fun (r15 : Unit) =>
  call Tryz.prog N_rbtree_Tree_mend [.lf (.ptr t), .lf (.int .i64 x4)] [] fun (r16 : Unit) =>
  R x4
theorem sem_rbtree_Tree_turnLeft (t : Option Pt) (i : Int) (R : Rs.T [.lf (.int .i64)] → WP) : Same (semF Tryz.prog Tryz.f105 (.s .o (.s .o (.s (.d (.f 0 [0] (.f 4 [1] (.f 5 [0] (.f 9 [5] (.f 10 [0] (.f 14 [5] (.f 18 [1] (.f 1 [14] (.f 6 [19] (.f 11 [24] (.f 2 [15] (.f 7 [20] (.f 12 [25] (.f 3 [16] (.f 8 [21] (.f 13 [26] (.f 15 [27, 28] (.f 16 [29] (.f 17 [30] (.f 19 [17, 18] (.f 20 [33] (.w 21 [31, 34] (.f 22 [22, 23] (.f 23 [35] (.w 24 [32, 36] .fin)))))))))))))))))))))))))) (.s .o (.s .o (.s .o .o)))))) [.lf (.ptr t), .lf (.int .i64 i)] [.lf (.int .i64)] R) (fun w => W_rbtree_Tree_turnLeft t i R w) := ⟨by kernel_rfl⟩
theorem call_rbtree_Tree_turnLeft (t : Option Pt) (i : Int) (R : Rs.T [.lf (.int .i64)] → WP) (w : World) (h : W_rbtree_Tree_turnLeft t i R w) :
    CallX Tryz.prog N_rbtree_Tree_turnLeft ([.lf (.ptr t), .lf (.int .i64 i)].map V1.enc) w fun v w' => ∃ x, v = (retTV (Rs.mk [.lf (.int .i64)] x)).enc ∧ R x w' :=
  callX_of_semF Tryz.func105 (by kernel_rfl) (by kernel_rfl) (sem_rbtree_Tree_turnLeft t i R) h


/-- (*canter/rbtree.Tree).turnRight -/
def W_rbtree_Tree_turnRight (t : Option Pt) (i : Int) (R : Rs.T [.lf (.int .i64)] → WP) : WP :=
  deref t fun q1 =>
  ld [.sl] ⟨q1.b, q1.o + 1⟩ fun (x2 : Sl) =>
  idx x2 i 5 fun q3 =>
  ld [.int .i64] ⟨q3.b, q3.o + 2⟩ fun (x4 : Int) =>
  drw <|
  deref t fun q5 =>
  deref t fun q6 =>
  deref t fun q7 =>
  ld [.sl] ⟨q5.b, q5.o + 1⟩ fun (x8 : Sl) =>
  ld [.sl] ⟨q6.b, q6.o + 1⟩ fun (x9 : Sl) =>
  ld [.sl] ⟨q7.b, q7.o + 1⟩ fun (x10 : Sl) =>
  idx x10 x4 5 fun q11 =>
  ld [.int .i64] ⟨q11.b, q11.o + 3⟩ fun (x12 : Int) =>
  idx x8 i 5 fun q13 =>
  st ⟨q13.b, q13.o + 2⟩ [.int .i64 x12] <|
  idx x9 x4 5 fun q14 =>
  st ⟨q14.b, q14.o + 3⟩ [.int .i64 i] <|
  call Tryz.prog N_rbtree_Tree_mend [.lf (.ptr t), .lf (.int .i64 i)] [] fun (r15 : Unit) =>
  call Tryz.prog N_rbtree_Tree_mend [.lf (.ptr t), .lf (.int .i64 x4)] [] fun (r16 : Unit) =>
  R x4
theorem sem_rbtree_Tree_turnRight (t : Option Pt) (i : Int) (R : Rs.T [.lf (.int .i64)] → WP) : Same (semF Tryz.prog Tryz.f106 (.s .o (.s .o (.s (.d (.f 0 [0] (.f 4 [1] (.f 5 [0] (.f 9 [5] (.f 10 [0] (.f 14 [5] (.f 18 [1] (.f 1 [14] (.f 6 [19] (.f 11 [24] (.f 2 [15] (.f 7 [20] (.f 12 [25] (.f 3 [16] (.f 8 [21] (.f 13 [26] (.f 15 [27, 28] (.f 16 [29] (.f 17 [30] (.f 19 [17, 18] (.f 20 [33] (.w 21 [31, 34] (.f 22 [22, 23] (.f 23 [35] (.w 24 [32, 36] .fin)))))))))))))))))))))))))) (.s .o (.s .o (.s .o .o)))))) [.lf (.ptr t), .lf (.int .i64 i)] [.lf (.int .i64)] R) (fun w => W_rbtree_Tree_turnRight t i R w) := ⟨by kernel_rfl⟩
theorem call_rbtree_Tree_turnRight (t : Option Pt) (i : Int) (R : Rs.T [.lf (.int .i64)] → WP) (w : World) (h : W_rbtree_Tree_turnRight t i R w) :
    CallX Tryz.prog N_rbtree_Tree_turnRight ([.lf (.ptr t), .lf (.int .i64 i)].map V1.enc) w fun v w' => ∃ x, v = (retTV (Rs.mk [.lf (.int .i64)] x)).enc ∧ R x w' :=
  callX_of_semF Tryz.func106 (by kernel_rfl) (by kernel_rfl) (sem_rbtree_Tree_turnRight t i R) h


/-- (*canter/rbtree.Tree).way -/
def W_rbtree_Tree_way (t : Option Pt) (k : Int × Int) (R : Rs.T [.lf .sl] → WP) : WP :=
  new (Ks.mk [.int .u64, .int .u64] k) fun n1 =>
  call Tryz.prog N_rbtree_Tree_root [.lf (.ptr t)] [.lf (.int .i64)] fun (r2 : Int) =>
  loop [.sl, .int .i64] (⟨none, 0, 0⟩, r2) fun J3 (y4 : Sl × Int) =>
  ite' (y4.2 != (-1:Int)) (
  new [.int .i64 y4.2] fun n5 =>
  app 1 y4.1 ⟨some ⟨n5, 0⟩, 1, 1⟩ fun s6 =>
  drw <|
  ld [.int .u64, .int .u64] ⟨n1, 0⟩ fun (x7 : Int × Int) =>
  deref t fun q8 =>
  ld [.sl] ⟨q8.b, q8.o + 1⟩ fun (x9 : Sl) =>
  idx x9 y4.2 5 fun q10 =>
  ld [.int .u64, .int .u64] q10 fun (x11 : Int × Int) =>
  call Tryz.prog N_rbtree_compare [.agg (Ks.mk [.int .u64, .int .u64] x7), .agg (Ks.mk [.int .u64, .int .u64] x11)] [.lf (.int .i64)] fun (r12 : Int) =>
  ite' (decide (r12 < (0:Int))) (
  deref t fun q13 =>
  ld [.sl] ⟨q13.b, q13.o + 1⟩ fun (x14 : Sl) =>
  idx x14 y4.2 5 fun q15 =>
  ld [.int .i64] ⟨q15.b, q15.o + 2⟩ fun (x16 : Int) =>
  J3 (s6, x16)) <|
  ite' (decide (r12 > (0:Int))) (
  deref t fun q17 =>
  ld [.sl] ⟨q17.b, q17.o + 1⟩ fun (x18 : Sl) =>
  idx x18 y4.2 5 fun q19 =>
  ld [.int .i64] ⟨q19.b, q19.o + 3⟩ fun (x20 : Int) =>
  J3 (s6, x20)) <|
  R s6) <|
  R y4.1
theorem sem_rbtree_Tree_way (t : Option Pt) (k : Int × Int) (R : Rs.T [.lf .sl] → WP) : Same (semF Tryz.prog Tryz.f67 (.s .o (.s .o (.s .o (.s .o (.s (.b (.l [(5, .lf .sl), (6, .lf (.int .i64))] (.s (.s .o (.s .o .o)) (.b (.s .o (.s (.d (.f 0 [3] (.f 1 [0] (.f 5 [6] (.f 2 [17] (.f 3 [18] (.f 4 [19] (.f 6 [20, 21] (.f 7 [22] (.f 8 [23] (.w 9 [16, 24] (.w 10 [25] .fin)))))))))))) (.b (.s .o (.s .o (.s .o (.s .o .o))))))))))) (.s .o .o)))))) [.lf (.ptr t), .agg (Ks.mk [.int .u64, .int .u64] k)] [.lf .sl] R) (fun w => W_rbtree_Tree_way t k R w) := ⟨by kernel_rfl⟩
theorem call_rbtree_Tree_way (t : Option Pt) (k : Int × Int) (R : Rs.T [.lf .sl] → WP) (w : World) (h : W_rbtree_Tree_way t k R w) :
    CallX Tryz.prog N_rbtree_Tree_way ([.lf (.ptr t), .agg (Ks.mk [.int .u64, .int .u64] k)].map V1.enc) w fun v w' => ∃ x, v = (retTV (Rs.mk [.lf .sl] x)).enc ∧ R x w' :=
  callX_of_semF Tryz.func67 (by kernel_rfl) (by kernel_rfl) (sem_rbtree_Tree_way t k R) h


/-- canter/rbtree.compare -/
def W_rbtree_compare (a : Int × Int) (b : Int × Int) (R : Rs.T [.lf (.int .i64)] → WP) : WP :=
  new (Ks.mk [.int .u64, .int .u64] a) fun n1 =>
  new (Ks.mk [.int .u64, .int .u64] b) fun n2 =>
  drw <|
  ld [.int .u64] ⟨n1, 0⟩ fun (x3 : Int) =>
  ld [.int .u64] ⟨n2, 0⟩ fun (x4 : Int) =>
  ld [.int .u64] ⟨n1, 1⟩ fun (x5 : Int) =>
  ld [.int .u64] ⟨n2, 1⟩ fun (x6 : Int) =>
  call Tryz.prog N_cmp_Compare_uint64 [.lf (.int .u64 x3), .lf (.int .u64 x4)] [.lf (.int .i64)] fun (r7 : Int) =>
  chk ⟨n2, 1⟩ (Ks.mk [.int .u64] x6) <|
  chk ⟨n1, 1⟩ (Ks.mk [.int .u64] x5) <|
  call Tryz.prog N_cmp_Compare_uint64 [.lf (.int .u64 x5), .lf (.int .u64 x6)] [.lf (.int .i64)] fun (r8 : Int) =>
  new [.int .i64 r7, .int .i64 r8] fun n9 =>
  call Tryz.prog N_cmp_Or_int [.lf (.sl ⟨some ⟨n9, 0⟩, 2, 2⟩)] [.lf (.int .i64)] fun (r10 : Int) =>
  R r10
theorem sem_rbtree_compare (a : Int × Int) (b : Int × Int) (R : Rs.T [.lf (.int .i64)] → WP) : Same (semF Tryz.prog Tryz.f91 (.s .o (.s (.d (.f 0 [2] (.f 2 [3] (.f 5 [2] (.f 7 [3] (.f 1 [5] (.f 3 [7] (.f 6 [10] (.f 8 [12] (.w 4 [6, 8] (.w 9 [11, 13] (.w 10 [9, 14] (.w 11 [15] (.w 12 [16] .fin)))))))))))))) .o)) [.agg (Ks.mk [.int .u64, .int .u64] a), .agg (Ks.mk [.int .u64, .int .u64] b)] [.lf (.int .i64)] R) (fun w => W_rbtree_compare a b R w) := ⟨by kernel_rfl⟩
theorem call_rbtree_compare (a : Int × Int) (b : Int × Int) (R : Rs.T [.lf (.int .i64)] → WP) (w : World) (h : W_rbtree_compare a b R w) :
    CallX Tryz.prog N_rbtree_compare ([.agg (Ks.mk [.int .u64, .int .u64] a), .agg (Ks.mk [.int .u64, .int .u64] b)].map V1.enc) w fun v w' => ∃ x, v = (retTV (Rs.mk [.lf (.int .i64)] x)).enc ∧ R x w' :=
  callX_of_semF Tryz.func91 (by kernel_rfl) (by kernel_rfl) (sem_rbtree_compare a b R) h


/-- canter/sat.Add -/
def W_sat_Add (a : Int) (b : Int) (R : Rs.T [.lf (.int .u64)] → WP) : WP :=
  call Tryz.prog N_math_bits_Add64 [.lf (.int .u64 a), .lf (.int .u64 b), .lf (.int .u64 (0:Int))] [.lf (.int .u64), .lf (.int .u64)] fun (r1 : Int × Int) =>
  ite' (decide (r1.2 > (0:Int))) (
  R (18446744073709551615:Int)) <|
  R r1.1
theorem sem_sat_Add (a : Int) (b : Int) (R : Rs.T [.lf (.int .u64)] → WP) : Same (semF Tryz.prog Tryz.f71 (.s .o (.s .o (.s (.s .o (.s (.s .o .o) .o)) (.s .o .o)))) [.lf (.int .u64 a), .lf (.int .u64 b)] [.lf (.int .u64)] R) (fun w => W_sat_Add a b R w) := ⟨by kernel_rfl⟩
theorem call_sat_Add (a : Int) (b : Int) (R : Rs.T [.lf (.int .u64)] → WP) (w : World) (h : W_sat_Add a b R w) :
    CallX Tryz.prog N_sat_Add ([.lf (.int .u64 a), .lf (.int .u64 b)].map V1.enc) w fun v w' => ∃ x, v = (retTV (Rs.mk [.lf (.int .u64)] x)).enc ∧ R x w' :=
  callX_of_semF Tryz.func71 (by kernel_rfl) (by kernel_rfl) (sem_sat_Add a b R) h


/-- slices.Clone[[]canter/api.Seg,canter/api.Seg] -/
def W_slices_Clone_sapiSegapiSeg (s : Sl) (R : Rs.T [.lf .sl] → WP) : WP :=
  ite' (Sl.isNil s) (
  R ⟨none, 0, 0⟩) <|
  new [] fun n1 =>
  app 5 ⟨some ⟨n1, 0⟩, 0, 0⟩ s fun s2 =>
  R s2
theorem sem_slices_Clone_sapiSegapiSeg (s : Sl) (R : Rs.T [.lf .sl] → WP) : Same (semF Tryz.prog Tryz.f50 (.s .o (.s (.s .o (.s (.s .o .o) .o)) (.s .o .o))) [.lf (.sl s)] [.lf .sl] R) (fun w => W_slices_Clone_sapiSegapiSeg s R w) := ⟨by kernel_rfl⟩
theorem call_slices_Clone_sapiSegapiSeg (s : Sl) (R : Rs.T [.lf .sl] → WP) (w : World) (h : W_slices_Clone_sapiSegapiSeg s R w) :
    CallX Tryz.prog N_slices_Clone_sapiSegapiSeg ([.lf (.sl s)].map V1.enc) w fun v w' => ∃ x, v = (retTV (Rs.mk [.lf .sl] x)).enc ∧ R x w' :=
  callX_of_semF Tryz.func50 (by kernel_rfl) (by kernel_rfl) (sem_slices_Clone_sapiSegapiSeg s R) h


/-- slices.Concat[[]int,int] -/
def W_slices_Concat_sintint (slices : Sl) (R : Rs.T [.lf .sl] → WP) : WP :=
  loop [.int .i64, .int .i64] ((0:Int), (0:Int)) fun J1 (y2 : Int × Int) =>
  ite' (decide (y2.2 < ((slices.len : Nat) : Int))) (
  idx slices y2.2 1 fun q3 =>
  ld [.sl] q3 fun (x4 : Sl) =>
  ite' (decide ((IntKind.i64.wrap (y2.1 + ((x4.len : Nat) : Int))) < (0:Int))) (
  wno) <|
  J1 ((IntKind.i64.wrap (y2.1 + ((x4.len : Nat) : Int))), (IntKind.i64.wrap (y2.2 + (1:Int))))) <|
  call Tryz.prog N_slices_Grow_sintint [.lf (.sl ⟨none, 0, 0⟩), .lf (.int .i64 y2.1)] [.lf .sl] fun (r5 : Sl) =>
  loop [.sl, .int .i64] (r5, (0:Int)) fun J6 (y7 : Sl × Int) =>
  ite' (decide (y7.2 < ((slices.len : Nat) : Int))) (
  idx slices y7.2 1 fun q8 =>
  ld [.sl] q8 fun (x9 : Sl) =>
  app 1 y7.1 x9 fun s10 =>
  J6 (s10, (IntKind.i64.wrap (y7.2 + (1:Int))))) <|
  R y7.1
theorem sem_slices_Concat_sintint (slices : Sl) (R : Rs.T [.lf .sl] → WP) : Same (semF Tryz.prog Tryz.f90 (.s .o (.s .o (.s (.s .o (.b (.l [(3, .lf (.int .i64)), (11, .lf (.int .i64))] (.s .o (.s (.s .o .o) (.s (.b (.s .o (.s .o (.s .o (.s .o .o))))) .o)))))) (.s .o (.s (.s .o (.b (.l [(6, .lf .sl), (27, .lf (.int .i64))] (.s .o (.s (.s .o .o) (.s (.b (.s .o .o)) .o)))))) (.s .o .o)))))) [.lf (.sl slices)] [.lf .sl] R) (fun w => W_slices_Concat_sintint slices R w) := ⟨by kernel_rfl⟩
theorem call_slices_Concat_sintint (slices : Sl) (R : Rs.T [.lf .sl] → WP) (w : World) (h : W_slices_Concat_sintint slices R w) :
    CallX Tryz.prog N_slices_Concat_sintint ([.lf (.sl slices)].map V1.enc) w fun v w' => ∃ x, v = (retTV (Rs.mk [.lf .sl] x)).enc ∧ R x w' :=
  callX_of_semF Tryz.func90 (by kernel_rfl) (by kernel_rfl) (sem_slices_Concat_sintint slices R) h


/-- slices.DeleteFunc[[]int,int] -/
def W_slices_DeleteFunc_sintint (s : Sl) (del : Fv) (R : Rs.T [.lf .sl] → WP) : WP :=
  call Tryz.prog N_slices_IndexFunc_sintint [.lf (.sl s), .lf (.fn del)] [.lf (.int .i64)] fun (r1 : Int) =>
  ite' (r1 == (-1:Int)) (
  R s) <|
  loop [.int .i64, .int .i64] (r1, (IntKind.i64.wrap (r1 + (1:Int)))) fun J2 (y3 : Int × Int) =>
  ite' (decide (y3.2 < ((s.len : Nat) : Int))) (
  idx s y3.2 1 fun q4 =>
  ld [.int .i64] q4 fun (x5 : Int) =>
  callv Tryz.prog del [.lf (.int .i64 x5)] [.lf .bool] fun (r6 : Bool) =>
  ite' (!r6) (
  idx s y3.1 1 fun q7 =>
  st q7 [.int .i64 x5] <|
  J2 ((IntKind.i64.wrap (y3.1 + (1:Int))), (IntKind.i64.wrap (y3.2 + (1:Int))))) <|
  J2 (y3.1, (IntKind.i64.wrap (y3.2 + (1:Int))))) <|
  slc s (some y3.1) none none 1 fun s8 =>
  clr [.int .i64 (0:Int)] s8 <|
  slc s none (some y3.1) none 1 fun s9 =>
  R s9
theorem sem_slices_DeleteFunc_sintint (s : Sl) (del : Fv) (R : Rs.T [.lf .sl] → WP) : Same (semF Tryz.prog Tryz.f82 (.s .o (.s .o (.s (.s .o (.s (.s .o .o) .o)) (.s (.s .o (.b (.l [(5, .lf (.int .i64)), (6, .lf (.int .i64))] (.s (.s .o (.s .o .o)) (.s (.b (.s .o (.s .o (.s (.s .o .o) .o)))) .o))))) (.s .o (.s .o .o)))))) [.lf (.sl s), .lf (.fn del)] [.lf .sl] R) (fun w => W_slices_DeleteFunc_sintint s del R w) := ⟨by kernel_rfl⟩
theorem call_slices_DeleteFunc_sintint (s : Sl) (del : Fv) (R : Rs.T [.lf .sl] → WP) (w : World) (h : W_slices_DeleteFunc_sintint s del R w) :
    CallX Tryz.prog N_slices_DeleteFunc_sintint ([.lf (.sl s), .lf (.fn del)].map V1.enc) w fun v w' => ∃ x, v = (retTV (Rs.mk [.lf .sl] x)).enc ∧ R x w' :=
  callX_of_semF Tryz.func82 (by kernel_rfl) (by kernel_rfl) (sem_slices_DeleteFunc_sintint s del R) h


/-- slices.Grow[[]int,int] -/
def W_slices_Grow_sintint (s : Sl) (n : Int) (R : Rs.T [.lf .sl] → WP) : WP :=
  join [] (fun J1 =>
  ite' (decide (n < (0:Int))) (
  wno) <|
  J1 ()) fun (y2 : Unit) =>
  ite' (decide ((IntKind.i64.wrap (n - (IntKind.i64.wrap (((s.cp : Nat) : Int) - ((s.len : Nat) : Int))))) > (0:Int))) (
  slc s none (some ((s.cp : Nat) : Int)) none 1 fun s3 =>
  appz [.int .i64 (0:Int)] 1 s3 (IntKind.i64.wrap (n - (IntKind.i64.wrap (((s.cp : Nat) : Int) - ((s.len : Nat) : Int))))) fun s4 =>
  slc s4 none (some ((s.len : Nat) : Int)) none 1 fun s5 =>
  R s5) <|
  R s
theorem sem_slices_Grow_sintint (s : Sl) (n : Int) (R : Rs.T [.lf .sl] → WP) : Same (semF Tryz.prog Tryz.f100 (.s .o (.j [] (.s .o (.s .o .o)) (.s (.s .o (.s .o (.s .o .o))) (.s .o .o)))) [.lf (.sl s), .lf (.int .i64 n)] [.lf .sl] R) (fun w => W_slices_Grow_sintint s n R w) := ⟨by kernel_rfl⟩
theorem call_slices_Grow_sintint (s : Sl) (n : Int) (R : Rs.T [.lf .sl] → WP) (w : World) (h : W_slices_Grow_sintint s n R w) :
    CallX Tryz.prog N_slices_Grow_sintint ([.lf (.sl s), .lf (.int .i64 n)].map V1.enc) w fun v w' => ∃ x, v = (retTV (Rs.mk [.lf .sl] x)).enc ∧ R x w' :=
  callX_of_semF Tryz.func100 (by kernel_rfl) (by kernel_rfl) (sem_slices_Grow_sintint s n R) h


/-- slices.IndexFunc[[]int,int] -/
def W_slices_IndexFunc_sintint (s : Sl) (f : Fv) (R : Rs.T [.lf (.int .i64)] → WP) : WP :=
  loop [.int .i64] (0:Int) fun J1 (y2 : Int) =>
  ite' (decide (y2 < ((s.len : Nat) : Int))) (
  idx s y2 1 fun q3 =>
  ld [.int .i64] q3 fun (x4 : Int) =>
  callv Tryz.prog f [.lf (.int .i64 x4)] [.lf .bool] fun (r5 : Bool) =>
  ite' r5 (
  R y2) <|
  J1 (IntKind.i64.wrap (y2 + (1:Int)))) <|
  R (-1:Int)
theorem sem_slices_IndexFunc_sintint (s : Sl) (f : Fv) (R : Rs.T [.lf (.int .i64)] → WP) : Same (semF Tryz.prog Tryz.f98 (.s .o (.s (.s .o (.b (.l [(8, .lf (.int .i64))] (.s .o (.s (.s .o .o) (.s (.b (.s .o (.s .o (.s (.s .o .o) .o)))) .o)))))) (.s .o .o))) [.lf (.sl s), .lf (.fn f)] [.lf (.int .i64)] R) (fun w => W_slices_IndexFunc_sintint s f R w) := ⟨by kernel_rfl⟩
theorem call_slices_IndexFunc_sintint (s : Sl) (f : Fv) (R : Rs.T [.lf (.int .i64)] → WP) (w : World) (h : W_slices_IndexFunc_sintint s f R w) :
    CallX Tryz.prog N_slices_IndexFunc_sintint ([.lf (.sl s), .lf (.fn f)].map V1.enc) w fun v w' => ∃ x, v = (retTV (Rs.mk [.lf (.int .i64)] x)).enc ∧ R x w' :=
  callX_of_semF Tryz.func98 (by kernel_rfl) (by kernel_rfl) (sem_slices_IndexFunc_sintint s f R) h


/-- canter/wide.Div -/
def W_wide_Div (hi : Int) (lo : Int) (c : Int) (R : Rs.T [.lf (.int .u64), .lf (.int .i64)] → WP) : WP :=
  ite' (c == (0:Int)) (
  R ((0:Int), (1:Int))) <|
  ite' (decide (hi ≥ c)) (
  R ((0:Int), (3:Int))) <|
  loop K_u3i (hi, lo, (0:Int), (0:Int)) fun J1 (y2 : T_u3i) =>
  ite' (y2.2.2.2 == (64:Int)) (
  R (y2.2.2.1, (0:Int))) <|
  req (0 ≤ (63:Int)) <|
  req (0 ≤ (1:Int)) <|
  req (0 ≤ (63:Int)) <|
  req (0 ≤ (1:Int)) <|
  req (0 ≤ (1:Int)) <|
  ite' (((y2.1.fdiv (2 ^ min (63:Int).toNat IntKind.u64.bits)) == (0:Int)) && (decide ((IntKind.u64.wrap (BitVec.ofInt IntKind.u64.bits (IntKind.u64.wrap (y2.1 * 2 ^ min (1:Int).toNat IntKind.u64.bits)) ||| BitVec.ofInt IntKind.u64.bits (y2.2.1.fdiv (2 ^ min (63:Int).toNat IntKind.u64.bits))).toNat) < c))) (
  J1 ((IntKind.u64.wrap (BitVec.ofInt IntKind.u64.bits (IntKind.u64.wrap (y2.1 * 2 ^ min (1:Int).toNat IntKind.u64.bits)) ||| BitVec.ofInt IntKind.u64.bits (y2.2.1.fdiv (2 ^ min (63:Int).toNat IntKind.u64.bits))).toNat), (IntKind.u64.wrap (y2.2.1 * 2 ^ min (1:Int).toNat IntKind.u64.bits)), (IntKind.u64.wrap (y2.2.2.1 * 2 ^ min (1:Int).toNat IntKind.u64.bits)), (IntKind.i64.wrap (y2.2.2.2 + (1:Int))))) <|
  J1 ((IntKind.u64.wrap ((IntKind.u64.wrap (BitVec.ofInt IntKind.u64.bits (IntKind.u64.wrap (y2.1 * 2 ^ min (1:Int).toNat IntKind.u64.bits)) ||| BitVec.ofInt IntKind.u64.bits (y2.2.1.fdiv (2 ^ min (63:Int).toNat IntKind.u64.bits))).toNat) - c)), (IntKind.u64.wrap (y2.2.1 * 2 ^ min (1:Int).toNat IntKind.u64.bits)), (IntKind.u64.wrap (BitVec.ofInt IntKind.u64.bits (IntKind.u64.wrap (y2.2.2.1 * 2 ^ min (1:Int).toNat IntKind.u64.bits)) ||| BitVec.ofInt IntKind.u64.bits (1:Int)).toNat), (IntKind.i64.wrap (y2.2.2.2 + (1:Int))))
theorem sem_wide_Div (hi : Int) (lo : Int) (c : Int) (R : Rs.T [.lf (.int .u64), .lf (.int .i64)] → WP) : Same (semF Tryz.prog Tryz.f108 (.s .o (.s (.b (.s .o (.s (.s .o .o) (.s .o (.s (.s .o .o) .o))))) (.s .o (.s .o (.s .o (.s (.b (.l [(0, .lf (.int .u64)), (1, .lf (.int .u64)), (8, .lf (.int .u64)), (9, .lf (.int .i64))] (.b (.s (.s .o (.s .o .o)) (.s .o (.s .o (.s .o (.s (.s .o (.s .o .o)) .o)))))))) (.s .o .o))))))) [.lf (.int .u64 hi), .lf (.int .u64 lo), .lf (.int .u64 c)] [.lf (.int .u64), .lf (.int .i64)] R) (fun w => W_wide_Div hi lo c R w) := ⟨by kernel_rfl⟩
theorem call_wide_Div (hi : Int) (lo : Int) (c : Int) (R : Rs.T [.lf (.int .u64), .lf (.int .i64)] → WP) (w : World) (h : W_wide_Div hi lo c R w) :
    CallX Tryz.prog N_wide_Div ([.lf (.int .u64 hi), .lf (.int .u64 lo), .lf (.int .u64 c)].map V1.enc) w fun v w' => ∃ x, v = (retTV (Rs.mk [.lf (.int .u64), .lf (.int .i64)] x)).enc ∧ R x w' :=
  callX_of_semF Tryz.func108 (by kernel_rfl) (by kernel_rfl) (sem_wide_Div hi lo c R) h


/-- canter/wide.Mul -/
def W_wide_Mul (a : Int) (b : Int) (R : Rs.T [.lf (.int .u64), .lf (.int .u64)] → WP) : WP :=
  call Tryz.prog N_math_bits_Mul64 [.lf (.int .u64 a), .lf (.int .u64 b)] [.lf (.int .u64), .lf (.int .u64)] fun (r1 : Int × Int) =>
  R (r1.1, r1.2)
theorem sem_wide_Mul (a : Int) (b : Int) (R : Rs.T [.lf (.int .u64), .lf (.int .u64)] → WP) : Same (semF Tryz.prog Tryz.f107 (.s .o (.s .o .o)) [.lf (.int .u64 a), .lf (.int .u64 b)] [.lf (.int .u64), .lf (.int .u64)] R) (fun w => W_wide_Mul a b R w) := ⟨by kernel_rfl⟩
theorem call_wide_Mul (a : Int) (b : Int) (R : Rs.T [.lf (.int .u64), .lf (.int .u64)] → WP) (w : World) (h : W_wide_Mul a b R w) :
    CallX Tryz.prog N_wide_Mul ([.lf (.int .u64 a), .lf (.int .u64 b)].map V1.enc) w fun v w' => ∃ x, v = (retTV (Rs.mk [.lf (.int .u64), .lf (.int .u64)] x)).enc ∧ R x w' :=
  callX_of_semF Tryz.func107 (by kernel_rfl) (by kernel_rfl) (sem_wide_Mul a b R) h


/-- canter/wide.MulDiv -/
def W_wide_MulDiv (a : Int) (b : Int) (c : Int) (R : Rs.T [.lf (.int .u64)] → WP) : WP :=
  call Tryz.prog N_wide_Mul [.lf (.int .u64 a), .lf (.int .u64 b)] [.lf (.int .u64), .lf (.int .u64)] fun (r1 : Int × Int) =>
  ite' ((r1.1 == (0:Int)) && (r1.2 == (0:Int))) (
  R (0:Int)) <|
  call Tryz.prog N_wide_Div [.lf (.int .u64 r1.1), .lf (.int .u64 r1.2), .lf (.int .u64 c)] [.lf (.int .u64), .lf (.int .i64)] fun (r2 : Int × Int) =>
  ite' (r2.2 != (0:Int)) (
  R (18446744073709551615:Int)) <|
  R r2.1
theorem sem_wide_MulDiv (a : Int) (b : Int) (c : Int) (R : Rs.T [.lf (.int .u64)] → WP) : Same (semF Tryz.prog Tryz.f94 (.s .o (.s .o (.s (.s .o (.s (.s .o .o) .o)) (.s .o (.s (.s .o (.s (.s .o .o) .o)) (.s .o .o)))))) [.lf (.int .u64 a), .lf (.int .u64 b), .lf (.int .u64 c)] [.lf (.int .u64)] R) (fun w => W_wide_MulDiv a b c R w) := ⟨by kernel_rfl⟩
theorem call_wide_MulDiv (a : Int) (b : Int) (c : Int) (R : Rs.T [.lf (.int .u64)] → WP) (w : World) (h : W_wide_MulDiv a b c R w) :
    CallX Tryz.prog N_wide_MulDiv ([.lf (.int .u64 a), .lf (.int .u64 b), .lf (.int .u64 c)].map V1.enc) w fun v w' => ∃ x, v = (retTV (Rs.mk [.lf (.int .u64)] x)).enc ∧ R x w' :=
  callX_of_semF Tryz.func94 (by kernel_rfl) (by kernel_rfl) (sem_wide_MulDiv a b c R) h



end Go.X
