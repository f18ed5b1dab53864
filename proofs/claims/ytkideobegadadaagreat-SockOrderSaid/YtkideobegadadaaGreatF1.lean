/- What each function of the program computes, as a weakest precondition, printed by program; the kernel sees that the code says so. -/
import Derived.Test.YtkideobegadadaaGreatK
import Derived.Test.YtkideobegadadaaGreatProg
set_option linter.unusedVariables false
namespace Go.X
open Go.Proofs
/-- (*canter/policer.Policer).Update -/
def W_policer_Policer_Update (d : Option Pt) (o : Bool) (a : T_u8b) (R : Rs.T [] → WP) : WP :=
  new (Ks.mk K_u8b a) fun n1 =>
  loop [] () fun J2 (y3 : Unit) =>
  ite' (!d.isNone) (
  drw <|
  deref d fun q4 =>
  ld [.int .u64] ⟨n1, 6⟩ fun (x5 : Int) =>
  ld [.int .u64] ⟨q4.b, q4.o + 4⟩ fun (x6 : Int) =>
  call Tryz.prog N_sat_Add [.lf (.int .u64 x6), .lf (.int .u64 x5)] [.lf (.int .u64)] fun (r7 : Int) =>
  deref d fun q8 =>
  st ⟨q8.b, q8.o + 4⟩ [.int .u64 r7] <|
  join [.bool] (fun J9 =>
  deref d fun q11 =>
  ld [.bool] q11 fun (x12 : Bool) =>
  ite' (!x12) (
  deref d fun q13 =>
  ld [.bool] ⟨q13.b, q13.o + 1⟩ fun (x14 : Bool) =>
  J9 (!x14)) <|
  J9 false) fun (y10 : Bool) =>
  ite' y10 (
  ld [.int .u64] ⟨n1, 6⟩ fun (x15 : Int) =>
  ite' (decide (x15 > (0:Int))) (
  ld K_u8b ⟨n1, 0⟩ fun (x16 : T_u8b) =>
  call Tryz.prog N_policer_Policer_begin [.lf (.ptr d), .agg (Ks.mk K_u8b x16)] [] fun (r17 : Unit) =>
  R ()) <|
  R ()) <|
  join [] (fun J18 =>
  deref d fun q20 =>
  ld [.bool] q20 fun (x21 : Bool) =>
  ite' (!x21) (
  ld [.bool] ⟨n1, 8⟩ fun (x22 : Bool) =>
  ite' x22 (
  call Tryz.prog N_policer_Policer_leave [.lf (.ptr d)] [] fun (r23 : Unit) =>
  R ()) <|
  J18 ()) <|
  J18 ()) fun (y19 : Unit) =>
  join [] (fun J24 =>
  ite' o (
  deref d fun q26 =>
  ld [.int .i64] ⟨q26.b, q26.o + 3⟩ fun (x27 : Int) =>
  deref d fun q28 =>
  st ⟨q28.b, q28.o + 3⟩ [.int .i64 (IntKind.i64.wrap (x27 + (1:Int)))] <|
  J24 ()) <|
  J24 ()) fun (y25 : Unit) =>
  deref d fun q29 =>
  ld [.bool] q29 fun (x30 : Bool) =>
  ite' x30 (
  join [.bool] (fun J31 =>
  ite' o (
  deref d fun q33 =>
  ld [.int .i64] ⟨q33.b, q33.o + 3⟩ fun (x34 : Int) =>
  J31 (x34 == (48:Int))) <|
  J31 false) fun (y32 : Bool) =>
  ite' y32 (
  call Tryz.prog N_policer_Policer_leave [.lf (.ptr d)] [] fun (r35 : Unit) =>
  deref d fun q36 =>
  st ⟨q36.b, q36.o + 3⟩ [.int .i64 (0:Int)] <|
  R ()) <|
  R ()) <|
  deref d fun q37 =>
  ld [.int .i64] ⟨q37.b, q37.o + 3⟩ fun (x38 : Int) =>
  ite' (decide (x38 > (16:Int))) (
  call Tryz.prog N_policer_Policer_leave [.lf (.ptr d)] [] fun (r39 : Unit) =>
  R ()) <|
  join [.bool] (fun J40 =>
  deref d fun q42 =>
  ld [.int .i64] ⟨q42.b, q42.o + 3⟩ fun (x43 : Int) =>
  ite' (decide (x43 ≥ (4:Int))) (
  ld [.int .u64] ⟨n1, 6⟩ fun (x44 : Int) =>
  J40 (decide (x44 > (0:Int)))) <|
  J40 false) fun (y41 : Bool) =>
  ite' y41 (
  ld K_u8b ⟨n1, 0⟩ fun (x45 : T_u8b) =>
  call Tryz.prog N_policer_Policer_end [.lf (.ptr d), .agg (Ks.mk K_u8b x45)] [] fun (r46 : Unit) =>
  R ()) <|
  R ()) <|
  R ()
theorem sem_policer_Policer_Update (d : Option Pt) (o : Bool) (a : T_u8b) (R : Rs.T [] → WP) : Same (semF Tryz.prog Tryz.f129 (.s .o (.s .o (.b (.l [] (.s (.s .o (.s .o .o)) (.b (.s (.d (.f 0 [0] (.f 1 [0] (.f 5 [5] (.f 2 [9] (.f 6 [13] (.f 3 [10] (.f 4 [11] (.w 7 [12, 14] (.f 8 [8] (.f 9 [16] (.w 10 [15, 17] .fin)))))))))))) (.s (.j [(29, .lf .bool)] .o (.s (.s (.s .o (.s .o .o)) .o) .o)) (.j [] (.s .o (.s (.s .o .o) .o)) (.j [] (.s .o (.s .o .o)) (.s (.b (.s .o (.s (.j [(67, .lf .bool)] .o (.s (.s .o .o) .o)) (.s .o (.s .o (.j [(81, .lf .bool)] .o (.s .o .o))))))) .o))))))))))) [.lf (.ptr d), .lf (.bool o), .agg (Ks.mk K_u8b a)] [] R) (fun w => W_policer_Policer_Update d o a R w) := ⟨by kernel_rfl⟩
theorem call_policer_Policer_Update (d : Option Pt) (o : Bool) (a : T_u8b) (R : Rs.T [] → WP) (w : World) (h : W_policer_Policer_Update d o a R w) :
    CallX Tryz.prog N_policer_Policer_Update ([.lf (.ptr d), .lf (.bool o), .agg (Ks.mk K_u8b a)].map V1.enc) w fun v w' => ∃ x, v = (retTV (Rs.mk [] x)).enc ∧ R x w' :=
  callX_of_semF Tryz.func129 (by kernel_rfl) (by kernel_rfl) (sem_policer_Policer_Update d o a R) h


/-- (*canter/policer.Policer).Use -/
def W_policer_Policer_Use (p : Option Pt) (R : Rs.T [.lf (.int .u64), .lf .bool] → WP) : WP :=
  join [] (fun J1 =>
  ite' p.isNone (
  R ((0:Int), false)) <|
  deref p fun q3 =>
  ld [.bool] q3 fun (x4 : Bool) =>
  ite' (!x4) (
  R ((0:Int), false)) <|
  J1 ()) fun (y2 : Unit) =>
  deref p fun q5 =>
  ld [.int .u64] ⟨q5.b, q5.o + 2⟩ fun (x6 : Int) =>
  R (x6, true)
theorem sem_policer_Policer_Use (p : Option Pt) (R : Rs.T [.lf (.int .u64), .lf .bool] → WP) : Same (semF Tryz.prog Tryz.f122 (.s .o (.j [] (.s .o (.s (.s .o .o) .o)) (.s .o .o))) [.lf (.ptr p)] [.lf (.int .u64), .lf .bool] R) (fun w => W_policer_Policer_Use p R w) := ⟨by kernel_rfl⟩
theorem call_policer_Policer_Use (p : Option Pt) (R : Rs.T [.lf (.int .u64), .lf .bool] → WP) (w : World) (h : W_policer_Policer_Use p R w) :
    CallX Tryz.prog N_policer_Policer_Use ([.lf (.ptr p)].map V1.enc) w fun v w' => ∃ x, v = (retTV (Rs.mk [.lf (.int .u64), .lf .bool] x)).enc ∧ R x w' :=
  callX_of_semF Tryz.func122 (by kernel_rfl) (by kernel_rfl) (sem_policer_Policer_Use p R) h


/-- (*canter/policer.Policer).begin -/
def W_policer_Policer_begin (p : Option Pt) (s : T_u8b) (R : Rs.T [] → WP) : WP :=
  new (Ks.mk K_u8b s) fun n1 =>
  drw <|
  ld [.int .u64] ⟨n1, 0⟩ fun (x2 : Int) =>
  ld [.int .u64] ⟨n1, 1⟩ fun (x3 : Int) =>
  deref p fun q4 =>
  ld [.int .u64] ⟨q4.b, q4.o + 4⟩ fun (x5 : Int) =>
  deref p fun q6 =>
  st ⟨q6.b, q6.o + 1⟩ [.bool true] <|
  chk ⟨n1, 1⟩ (Ks.mk [.int .u64] x3) <|
  chk ⟨n1, 0⟩ (Ks.mk [.int .u64] x2) <|
  deref p fun q7 =>
  st ⟨q7.b, q7.o + 3⟩ [.int .i64 (0:Int)] <|
  chk ⟨n1, 1⟩ (Ks.mk [.int .u64] x3) <|
  chk ⟨n1, 0⟩ (Ks.mk [.int .u64] x2) <|
  deref p fun q8 =>
  st ⟨q8.b, q8.o + 5⟩ [.int .u64 x2, .int .u64 x3, .int .u64 x5] <|
  R ()
theorem sem_policer_Policer_begin (p : Option Pt) (s : T_u8b) (R : Rs.T [] → WP) : Same (semF Tryz.prog Tryz.f157 (.s .o (.d (.f 0 [0] (.f 1 [0] (.f 2 [0] (.f 3 [3] (.f 5 [3] (.f 7 [0] (.f 4 [7] (.f 6 [9] (.f 8 [11] (.f 9 [12] (.f 10 [13] (.f 11 [8, 10, 14] (.f 12 [4] (.f 13 [16] (.w 14 [17] (.f 15 [5] (.f 16 [18] (.w 17 [19] (.f 18 [6] (.f 19 [20] (.w 20 [15, 21] .fin))))))))))))))))))))))) [.lf (.ptr p), .agg (Ks.mk K_u8b s)] [] R) (fun w => W_policer_Policer_begin p s R w) := ⟨by kernel_rfl⟩
theorem call_policer_Policer_begin (p : Option Pt) (s : T_u8b) (R : Rs.T [] → WP) (w : World) (h : W_policer_Policer_begin p s R w) :
    CallX Tryz.prog N_policer_Policer_begin ([.lf (.ptr p), .agg (Ks.mk K_u8b s)].map V1.enc) w fun v w' => ∃ x, v = (retTV (Rs.mk [] x)).enc ∧ R x w' :=
  callX_of_semF Tryz.func157 (by kernel_rfl) (by kernel_rfl) (sem_policer_Policer_begin p s R) h


/-- (*canter/policer.Policer).end -/
def W_policer_Policer_end (d : Option Pt) (o : T_u8b) (R : Rs.T [] → WP) : WP :=
  new (Ks.mk K_u8b o) fun n1 =>
  ld K_u8b ⟨n1, 0⟩ fun (x2 : T_u8b) =>
  call Tryz.prog N_policer_Policer_measured [.lf (.ptr d), .agg (Ks.mk K_u8b x2)] [.lf (.int .u64), .lf .bool] fun (r3 : Int × Bool) =>
  ite' (!r3.2) (
  R ()) <|
  join [.bool] (fun J4 =>
  drw <|
  deref d fun q6 =>
  ld [.int .u64] ⟨q6.b, q6.o + 2⟩ fun (x7 : Int) =>
  ite' (decide (x7 > (0:Int))) (
  deref d fun q8 =>
  deref d fun q9 =>
  ld [.int .u64] ⟨q8.b, q8.o + 2⟩ fun (x10 : Int) =>
  ld [.int .u64] ⟨q9.b, q9.o + 2⟩ fun (x11 : Int) =>
  call Tryz.prog N_policer_apart [.lf (.int .u64 x10), .lf (.int .u64 r3.1)] [.lf (.int .u64)] fun (r12 : Int) =>
  chk ⟨q9.b, q9.o + 2⟩ (Ks.mk [.int .u64] x11) <|
  J4 (decide (r12 ≤ (IntKind.u64.wrap (x11.tdiv (8:Int)))))) <|
  J4 false) fun (y5 : Bool) =>
  ite' y5 (
  drw <|
  deref d fun q13 =>
  deref d fun q14 =>
  ld [.int .u64] ⟨q13.b, q13.o + 2⟩ fun (x15 : Int) =>
  ld [.int .u64] ⟨q14.b, q14.o + 2⟩ fun (x16 : Int) =>
  deref d fun q17 =>
  st ⟨q17.b, q17.o + 2⟩ [.int .u64 (IntKind.u64.wrap ((IntKind.u64.wrap ((IntKind.u64.wrap (x15.tdiv (2:Int))) + (IntKind.u64.wrap (r3.1.tdiv (2:Int))))) + (IntKind.u64.wrap (BitVec.ofInt IntKind.u64.bits (IntKind.u64.wrap (BitVec.ofInt IntKind.u64.bits x16 &&& BitVec.ofInt IntKind.u64.bits r3.1).toNat) &&& BitVec.ofInt IntKind.u64.bits (1:Int)).toNat)))] <|
  deref d fun q18 =>
  st q18 [.bool true] <|
  deref d fun q19 =>
  st ⟨q19.b, q19.o + 3⟩ [.int .i64 (0:Int)] <|
  R ()) <|
  deref d fun q20 =>
  st ⟨q20.b, q20.o + 2⟩ [.int .u64 r3.1] <|
  ld K_u8b ⟨n1, 0⟩ fun (x21 : T_u8b) =>
  call Tryz.prog N_policer_Policer_begin [.lf (.ptr d), .agg (Ks.mk K_u8b x21)] [] fun (r22 : Unit) =>
  R ()
theorem sem_policer_Policer_end (d : Option Pt) (o : T_u8b) (R : Rs.T [] → WP) : Same (semF Tryz.prog Tryz.f159 (.s .o (.s .o (.b (.s .o (.s .o (.j [(22, .lf .bool)] (.d (.f 0 [0] (.f 1 [23] (.f 2 [24] (.f 3 [25] (.f 4 [26] (.f 5 [27] (.f 6 [0, 28] (.f 10 [4, 28] (.f 12 [0, 28] (.f 7 [28, 29] (.f 13 [28, 35] (.f 8 [28, 30] (.f 14 [28, 36] (.f 9 [28, 31] (.f 15 [28, 37] (.f 16 [28, 38] (.w 11 [28, 32, 33] (.f 17 [28, 34, 39] (.f 18 [28, 40] (.w 19 [41] .fin))))))))))))))))))))) (.s (.s (.d (.f 0 [0] (.f 1 [0] (.f 6 [4] (.f 9 [0] (.f 13 [4] (.f 2 [43] (.f 7 [48] (.f 10 [51] (.f 3 [44] (.f 11 [52] (.f 4 [45] (.f 12 [53] (.f 5 [46] (.f 14 [54, 55] (.f 8 [47, 49] (.f 15 [56] (.f 16 [50, 57] (.f 17 [42] (.f 18 [59] (.w 19 [58, 60] .fin))))))))))))))))))))) .o) (.s .o .o)))))))) [.lf (.ptr d), .agg (Ks.mk K_u8b o)] [] R) (fun w => W_policer_Policer_end d o R w) := ⟨by kernel_rfl⟩
theorem call_policer_Policer_end (d : Option Pt) (o : T_u8b) (R : Rs.T [] → WP) (w : World) (h : W_policer_Policer_end d o R w) :
    CallX Tryz.prog N_policer_Policer_end ([.lf (.ptr d), .agg (Ks.mk K_u8b o)].map V1.enc) w fun v w' => ∃ x, v = (retTV (Rs.mk [] x)).enc ∧ R x w' :=
  callX_of_semF Tryz.func159 (by kernel_rfl) (by kernel_rfl) (sem_policer_Policer_end d o R) h


/-- (*canter/policer.Policer).leave -/
def W_policer_Policer_leave (p : Option Pt) (R : Rs.T [] → WP) : WP :=
  deref p fun q1 =>
  st q1 [.bool false] <|
  deref p fun q2 =>
  st ⟨q2.b, q2.o + 1⟩ [.bool false] <|
  deref p fun q3 =>
  st ⟨q3.b, q3.o + 2⟩ [.int .u64 (0:Int)] <|
  R ()
theorem sem_policer_Policer_leave (p : Option Pt) (R : Rs.T [] → WP) : Same (semF Tryz.prog Tryz.f158 .o [.lf (.ptr p)] [] R) (fun w => W_policer_Policer_leave p R w) := ⟨by kernel_rfl⟩
theorem call_policer_Policer_leave (p : Option Pt) (R : Rs.T [] → WP) (w : World) (h : W_policer_Policer_leave p R w) :
    CallX Tryz.prog N_policer_Policer_leave ([.lf (.ptr p)].map V1.enc) w fun v w' => ∃ x, v = (retTV (Rs.mk [] x)).enc ∧ R x w' :=
  callX_of_semF Tryz.func158 (by kernel_rfl) (by kernel_rfl) (sem_policer_Policer_leave p R) h


/-- (*canter/policer.Policer).measured -/
def W_policer_Policer_measured (p : Option Pt) (s : T_u8b) (R : Rs.T [.lf (.int .u64), .lf .bool] → WP) : WP :=
  new (Ks.mk K_u8b s) fun n1 =>
  drw <|
  ld [.int .u64] ⟨n1, 1⟩ fun (x2 : Int) =>
  deref p fun q3 =>
  deref p fun q4 =>
  deref p fun q5 =>
  ld [.int .u64] ⟨n1, 0⟩ fun (x6 : Int) =>
  deref p fun q7 =>
  ld [.int .u64] ⟨q4.b, q4.o + 4⟩ fun (x8 : Int) =>
  ld [.int .u64] ⟨q3.b, q3.o + 6⟩ fun (x9 : Int) =>
  ld [.int .u64] ⟨q5.b, q5.o + 7⟩ fun (x10 : Int) =>
  ld [.int .u64] ⟨q7.b, q7.o + 5⟩ fun (x11 : Int) =>
  call Tryz.prog N_sat_Sub [.lf (.int .u64 x2), .lf (.int .u64 x9)] [.lf (.int .u64)] fun (r12 : Int) =>
  chk ⟨q7.b, q7.o + 5⟩ (Ks.mk [.int .u64] x11) <|
  chk ⟨q5.b, q5.o + 7⟩ (Ks.mk [.int .u64] x10) <|
  chk ⟨q4.b, q4.o + 4⟩ (Ks.mk [.int .u64] x8) <|
  chk ⟨n1, 0⟩ (Ks.mk [.int .u64] x6) <|
  call Tryz.prog N_sat_Sub [.lf (.int .u64 x8), .lf (.int .u64 x10)] [.lf (.int .u64)] fun (r13 : Int) =>
  chk ⟨q7.b, q7.o + 5⟩ (Ks.mk [.int .u64] x11) <|
  chk ⟨n1, 0⟩ (Ks.mk [.int .u64] x6) <|
  call Tryz.prog N_sat_Sub [.lf (.int .u64 x6), .lf (.int .u64 x11)] [.lf (.int .u64)] fun (r14 : Int) =>
  ite' ((r12 == (0:Int)) || (r14 == (0:Int))) (
  R ((0:Int), false)) <|
  call Tryz.prog N_wide_MulDiv [.lf (.int .u64 r12), .lf (.int .u64 (50:Int)), .lf (.int .u64 (256:Int))] [.lf (.int .u64)] fun (r15 : Int) =>
  ite' (decide (r13 < r15)) (
  R ((0:Int), false)) <|
  call Tryz.prog N_wide_MulDiv [.lf (.int .u64 r12), .lf (.int .u64 (1000000000:Int)), .lf (.int .u64 r14)] [.lf (.int .u64)] fun (r16 : Int) =>
  R (r16, true)
theorem sem_policer_Policer_measured (p : Option Pt) (s : T_u8b) (R : Rs.T [.lf (.int .u64), .lf .bool] → WP) : Same (semF Tryz.prog Tryz.f171 (.s .o (.s (.d (.f 0 [3] (.f 2 [0] (.f 8 [0] (.f 12 [0] (.f 18 [3] (.f 20 [0] (.f 1 [9] (.f 3 [11] (.f 9 [17] (.f 13 [21] (.f 19 [27] (.f 21 [29] (.f 4 [12] (.f 10 [18] (.f 14 [22] (.f 22 [30] (.f 5 [13] (.f 11 [19] (.f 15 [23] (.f 23 [31] (.f 6 [14] (.f 16 [24] (.f 24 [32] (.w 7 [10, 15] (.w 17 [20, 25] (.w 25 [28, 33] (.w 26 [16] (.w 27 [26] (.w 28 [34] .fin)))))))))))))))))))))))))))))) (.s (.s .o (.s (.s .o .o) .o)) (.s .o .o)))) [.lf (.ptr p), .agg (Ks.mk K_u8b s)] [.lf (.int .u64), .lf .bool] R) (fun w => W_policer_Policer_measured p s R w) := ⟨by kernel_rfl⟩
theorem call_policer_Policer_measured (p : Option Pt) (s : T_u8b) (R : Rs.T [.lf (.int .u64), .lf .bool] → WP) (w : World) (h : W_policer_Policer_measured p s R w) :
    CallX Tryz.prog N_policer_Policer_measured ([.lf (.ptr p), .agg (Ks.mk K_u8b s)].map V1.enc) w fun v w' => ∃ x, v = (retTV (Rs.mk [.lf (.int .u64), .lf .bool] x)).enc ∧ R x w' :=
  callX_of_semF Tryz.func171 (by kernel_rfl) (by kernel_rfl) (sem_policer_Policer_measured p s R) h


/-- canter/policer.apart -/
def W_policer_apart (a : Int) (b : Int) (R : Rs.T [.lf (.int .u64)] → WP) : WP :=
  R (IntKind.u64.wrap ((if b > a then b else a) - (if b < a then b else a)))
theorem sem_policer_apart (a : Int) (b : Int) (R : Rs.T [.lf (.int .u64)] → WP) : Same (semF Tryz.prog Tryz.f172 (.s .o (.s .o .o)) [.lf (.int .u64 a), .lf (.int .u64 b)] [.lf (.int .u64)] R) (fun w => W_policer_apart a b R w) := ⟨by kernel_rfl⟩
theorem call_policer_apart (a : Int) (b : Int) (R : Rs.T [.lf (.int .u64)] → WP) (w : World) (h : W_policer_apart a b R w) :
    CallX Tryz.prog N_policer_apart ([.lf (.int .u64 a), .lf (.int .u64 b)].map V1.enc) w fun v w' => ∃ x, v = (retTV (Rs.mk [.lf (.int .u64)] x)).enc ∧ R x w' :=
  callX_of_semF Tryz.func172 (by kernel_rfl) (by kernel_rfl) (sem_policer_apart a b R) h


/-- canter/probe.New -/
def W_probe_New  (R : Rs.T [.lf .ptr] → WP) : WP :=
  new [.int .u64 (0:Int), .int .u64 (0:Int), .bool false, .int .u64 (0:Int), .bool false] fun n1 =>
  R (some ⟨n1, 0⟩)
theorem sem_probe_New  (R : Rs.T [.lf .ptr] → WP) : Same (semF Tryz.prog Tryz.f78 (.s .o (.s .o .o)) [] [.lf .ptr] R) (fun w => W_probe_New  R w) := ⟨by kernel_rfl⟩
theorem call_probe_New  (R : Rs.T [.lf .ptr] → WP) (w : World) (h : W_probe_New  R w) :
    CallX Tryz.prog N_probe_New ([].map V1.enc) w fun v w' => ∃ x, v = (retTV (Rs.mk [.lf .ptr] x)).enc ∧ R x w' :=
  callX_of_semF Tryz.func78 (by kernel_rfl) (by kernel_rfl) (sem_probe_New  R) h


/-- (*canter/probe.Probe).Best -/
def W_probe_Probe_Best (p : Option Pt) (R : Rs.T [.lf (.int .u64)] → WP) : WP :=
  ite' p.isNone (
  R (0:Int)) <|
  deref p fun q1 =>
  ld [.int .u64] q1 fun (x2 : Int) =>
  R x2
theorem sem_probe_Probe_Best (p : Option Pt) (R : Rs.T [.lf (.int .u64)] → WP) : Same (semF Tryz.prog Tryz.f91 (.s .o (.s (.s .o (.s (.s .o .o) .o)) (.s .o .o))) [.lf (.ptr p)] [.lf (.int .u64)] R) (fun w => W_probe_Probe_Best p R w) := ⟨by kernel_rfl⟩
theorem call_probe_Probe_Best (p : Option Pt) (R : Rs.T [.lf (.int .u64)] → WP) (w : World) (h : W_probe_Probe_Best p R w) :
    CallX Tryz.prog N_probe_Probe_Best ([.lf (.ptr p)].map V1.enc) w fun v w' => ∃ x, v = (retTV (Rs.mk [.lf (.int .u64)] x)).enc ∧ R x w' :=
  callX_of_semF Tryz.func91 (by kernel_rfl) (by kernel_rfl) (sem_probe_Probe_Best p R) h


/-- (*canter/probe.Probe).Update -/
def W_probe_Probe_Update (d : Option Pt) (o : Int) (a : Int) (a' : Bool) (a'' : Int) (a''' : Int) (R : Rs.T [.lf .bool, .lf .bool] → WP) : WP :=
  loop [.bool, .bool] (false, false) fun J1 (y2 : Bool × Bool) =>
  ite' (!d.isNone) (
  join [.bool] (fun J3 =>
  deref d fun q5 =>
  ld [.int .u64] q5 fun (x6 : Int) =>
  ite' (decide (x6 > (0:Int))) (
  deref d fun q7 =>
  ld [.int .u64] ⟨q7.b, q7.o + 1⟩ fun (x8 : Int) =>
  call Tryz.prog N_sat_Add [.lf (.int .u64 x8), .lf (.int .u64 (10000000000:Int))] [.lf (.int .u64)] fun (r9 : Int) =>
  J3 (decide (o > r9))) <|
  J3 false) fun (y4 : Bool) =>
  join [] (fun J10 =>
  join [.bool] (fun J12 =>
  ite' (decide (a > (0:Int))) (
  deref d fun q14 =>
  ld [.int .u64] q14 fun (x15 : Int) =>
  ite' (x15 == (0:Int)) (
  J12 true) <|
  deref d fun q16 =>
  ld [.int .u64] q16 fun (x17 : Int) =>
  J12 ((decide (a ≤ x17)) || y4)) <|
  J12 false) fun (y13 : Bool) =>
  ite' y13 (
  deref d fun q18 =>
  st q18 [.int .u64 a] <|
  deref d fun q19 =>
  st ⟨q19.b, q19.o + 1⟩ [.int .u64 o] <|
  J10 ()) <|
  J10 ()) fun (y11 : Unit) =>
  join [.bool] (fun J20 =>
  ite' y4 (
  deref d fun q22 =>
  ld [.bool] ⟨q22.b, q22.o + 2⟩ fun (x23 : Bool) =>
  J20 (!x23)) <|
  J20 false) fun (y21 : Bool) =>
  ite' y21 (
  deref d fun q24 =>
  st ⟨q24.b, q24.o + 2⟩ [.bool true] <|
  deref d fun q25 =>
  st ⟨q25.b, q25.o + 3⟩ [.int .u64 (0:Int)] <|
  deref d fun q26 =>
  st ⟨q26.b, q26.o + 4⟩ [.bool false] <|
  R (true, y2.2)) <|
  deref d fun q27 =>
  ld [.bool] ⟨q27.b, q27.o + 2⟩ fun (x28 : Bool) =>
  ite' x28 (
  call Tryz.prog N_probe_Probe_leaves [.lf (.ptr d), .lf (.int .u64 o), .lf (.bool a'), .lf (.int .u64 a''), .lf (.int .u64 a''')] [.lf .bool] fun (r29 : Bool) =>
  R (y2.1, r29)) <|
  R (y2.1, false)) <|
  R (y2.1, y2.2)
theorem sem_probe_Probe_Update (d : Option Pt) (o : Int) (a : Int) (a' : Bool) (a'' : Int) (a''' : Int) (R : Rs.T [.lf .bool, .lf .bool] → WP) : Same (semF Tryz.prog Tryz.f165 (.s .o (.s .o (.s .o (.s (.b (.l [(14, .lf .bool), (15, .lf .bool)] (.s (.s .o (.s .o .o)) (.b (.j [(16, .lf .bool)] .o (.j [] (.j [(52, .lf .bool)] .o (.s .o .o)) (.s (.j [(68, .lf .bool)] .o (.s (.s .o (.s .o .o)) .o)) (.s .o .o)))))))) (.s .o .o))))) [.lf (.ptr d), .lf (.int .u64 o), .lf (.int .u64 a), .lf (.bool a'), .lf (.int .u64 a''), .lf (.int .u64 a''')] [.lf .bool, .lf .bool] R) (fun w => W_probe_Probe_Update d o a a' a'' a''' R w) := ⟨by kernel_rfl⟩
theorem call_probe_Probe_Update (d : Option Pt) (o : Int) (a : Int) (a' : Bool) (a'' : Int) (a''' : Int) (R : Rs.T [.lf .bool, .lf .bool] → WP) (w : World) (h : W_probe_Probe_Update d o a a' a'' a''' R w) :
    CallX Tryz.prog N_probe_Probe_Update ([.lf (.ptr d), .lf (.int .u64 o), .lf (.int .u64 a), .lf (.bool a'), .lf (.int .u64 a''), .lf (.int .u64 a''')].map V1.enc) w fun v w' => ∃ x, v = (retTV (Rs.mk [.lf .bool, .lf .bool] x)).enc ∧ R x w' :=
  callX_of_semF Tryz.func165 (by kernel_rfl) (by kernel_rfl) (sem_probe_Probe_Update d o a a' a'' a''' R) h


/-- (*canter/probe.Probe).leaves -/
def W_probe_Probe_leaves (p : Option Pt) (now : Int) (start : Bool) (flight : Int) (floor : Int) (R : Rs.T [.lf .bool] → WP) : WP :=
  deref p fun q1 =>
  ld [.int .u64] ⟨q1.b, q1.o + 3⟩ fun (x2 : Int) =>
  ite' (x2 == (0:Int)) (
  ite' (decide (flight ≤ floor)) (
  call Tryz.prog N_sat_Add [.lf (.int .u64 now), .lf (.int .u64 (200000000:Int))] [.lf (.int .u64)] fun (r3 : Int) =>
  deref p fun q4 =>
  st ⟨q4.b, q4.o + 3⟩ [.int .u64 r3] <|
  deref p fun q5 =>
  st ⟨q5.b, q5.o + 4⟩ [.bool false] <|
  R false) <|
  R false) <|
  deref p fun q6 =>
  ld [.bool] ⟨q6.b, q6.o + 4⟩ fun (x7 : Bool) =>
  deref p fun q8 =>
  st ⟨q8.b, q8.o + 4⟩ [.bool (x7 || start)] <|
  join [] (fun J9 =>
  deref p fun q11 =>
  ld [.bool] ⟨q11.b, q11.o + 4⟩ fun (x12 : Bool) =>
  ite' (!x12) (
  R false) <|
  deref p fun q13 =>
  ld [.int .u64] ⟨q13.b, q13.o + 3⟩ fun (x14 : Int) =>
  ite' (decide (now ≤ x14)) (
  R false) <|
  J9 ()) fun (y10 : Unit) =>
  deref p fun q15 =>
  st ⟨q15.b, q15.o + 1⟩ [.int .u64 now] <|
  deref p fun q16 =>
  st ⟨q16.b, q16.o + 2⟩ [.bool false] <|
  R true
theorem sem_probe_Probe_leaves (p : Option Pt) (now : Int) (start : Bool) (flight : Int) (floor : Int) (R : Rs.T [.lf .bool] → WP) : Same (semF Tryz.prog Tryz.f177 (.s .o (.s (.s .o (.s (.s (.s .o (.s .o .o)) (.s .o .o)) .o)) (.s .o (.j [] (.s .o (.s (.s .o .o) .o)) (.s .o (.s .o .o)))))) [.lf (.ptr p), .lf (.int .u64 now), .lf (.bool start), .lf (.int .u64 flight), .lf (.int .u64 floor)] [.lf .bool] R) (fun w => W_probe_Probe_leaves p now start flight floor R w) := ⟨by kernel_rfl⟩
theorem call_probe_Probe_leaves (p : Option Pt) (now : Int) (start : Bool) (flight : Int) (floor : Int) (R : Rs.T [.lf .bool] → WP) (w : World) (h : W_probe_Probe_leaves p now start flight floor R w) :
    CallX Tryz.prog N_probe_Probe_leaves ([.lf (.ptr p), .lf (.int .u64 now), .lf (.bool start), .lf (.int .u64 flight), .lf (.int .u64 floor)].map V1.enc) w fun v w' => ∃ x, v = (retTV (Rs.mk [.lf .bool] x)).enc ∧ R x w' :=
  callX_of_semF Tryz.func177 (by kernel_rfl) (by kernel_rfl) (sem_probe_Probe_leaves p now start flight floor R) h


/-- canter/rounds.New -/
def W_rounds_New  (R : Rs.T [.lf .ptr] → WP) : WP :=
  new [.int .u64 (0:Int), .int .u64 (0:Int)] fun n1 =>
  R (some ⟨n1, 0⟩)
theorem sem_rounds_New  (R : Rs.T [.lf .ptr] → WP) : Same (semF Tryz.prog Tryz.f75 (.s .o (.s .o .o)) [] [.lf .ptr] R) (fun w => W_rounds_New  R w) := ⟨by kernel_rfl⟩
theorem call_rounds_New  (R : Rs.T [.lf .ptr] → WP) (w : World) (h : W_rounds_New  R w) :
    CallX Tryz.prog N_rounds_New ([].map V1.enc) w fun v w' => ∃ x, v = (retTV (Rs.mk [.lf .ptr] x)).enc ∧ R x w' :=
  callX_of_semF Tryz.func75 (by kernel_rfl) (by kernel_rfl) (sem_rounds_New  R) h


/-- (*canter/rounds.Rounds).Count -/
def W_rounds_Rounds_Count (r : Option Pt) (R : Rs.T [.lf (.int .u64)] → WP) : WP :=
  ite' r.isNone (
  R (0:Int)) <|
  deref r fun q1 =>
  ld [.int .u64] q1 fun (x2 : Int) =>
  R x2
theorem sem_rounds_Rounds_Count (r : Option Pt) (R : Rs.T [.lf (.int .u64)] → WP) : Same (semF Tryz.prog Tryz.f93 (.s .o (.s (.s .o (.s (.s .o .o) .o)) (.s .o .o))) [.lf (.ptr r)] [.lf (.int .u64)] R) (fun w => W_rounds_Rounds_Count r R w) := ⟨by kernel_rfl⟩
theorem call_rounds_Rounds_Count (r : Option Pt) (R : Rs.T [.lf (.int .u64)] → WP) (w : World) (h : W_rounds_Rounds_Count r R w) :
    CallX Tryz.prog N_rounds_Rounds_Count ([.lf (.ptr r)].map V1.enc) w fun v w' => ∃ x, v = (retTV (Rs.mk [.lf (.int .u64)] x)).enc ∧ R x w' :=
  callX_of_semF Tryz.func93 (by kernel_rfl) (by kernel_rfl) (sem_rounds_Rounds_Count r R) h


/-- (*canter/rounds.Rounds).Update -/
def W_rounds_Rounds_Update (r : Option Pt) (s : T_u8b) (R : Rs.T [.lf .bool] → WP) : WP :=
  new (Ks.mk K_u8b s) fun n1 =>
  loop [.bool] false fun J2 (y3 : Bool) =>
  join [] (fun J4 =>
  ite' (!r.isNone) (
  ld [.int .u64] ⟨n1, 5⟩ fun (x6 : Int) =>
  ite' (decide (x6 > (0:Int))) (
  J4 ()) <|
  R y3) <|
  R y3) fun (y5 : Unit) =>
  drw <|
  ld [.int .u64] ⟨n1, 2⟩ fun (x7 : Int) =>
  deref r fun q8 =>
  ld [.int .u64] ⟨q8.b, q8.o + 1⟩ fun (x9 : Int) =>
  ite' (decide (x7 < x9)) (
  R y3) <|
  ld [.int .u64] ⟨n1, 1⟩ fun (x10 : Int) =>
  deref r fun q11 =>
  st ⟨q11.b, q11.o + 1⟩ [.int .u64 x10] <|
  deref r fun q12 =>
  ld [.int .u64] q12 fun (x13 : Int) =>
  deref r fun q14 =>
  st q14 [.int .u64 (IntKind.u64.wrap (x13 + (1:Int)))] <|
  R true
theorem sem_rounds_Rounds_Update (r : Option Pt) (s : T_u8b) (R : Rs.T [.lf .bool] → WP) : Same (semF Tryz.prog Tryz.f128 (.s .o (.s .o (.s .o (.s (.b (.l [(5, .lf .bool)] (.j [] (.s .o (.s .o .o)) (.b (.s (.s (.d (.f 0 [3] (.f 2 [0] (.f 1 [13] (.f 3 [15] (.f 4 [16] (.f 5 [17] (.f 6 [14, 18] .fin)))))))) (.s .o .o)) (.s .o (.s .o .o))))))) (.s .o .o))))) [.lf (.ptr r), .agg (Ks.mk K_u8b s)] [.lf .bool] R) (fun w => W_rounds_Rounds_Update r s R w) := ⟨by kernel_rfl⟩
theorem call_rounds_Rounds_Update (r : Option Pt) (s : T_u8b) (R : Rs.T [.lf .bool] → WP) (w : World) (h : W_rounds_Rounds_Update r s R w) :
    CallX Tryz.prog N_rounds_Rounds_Update ([.lf (.ptr r), .agg (Ks.mk K_u8b s)].map V1.enc) w fun v w' => ∃ x, v = (retTV (Rs.mk [.lf .bool] x)).enc ∧ R x w' :=
  callX_of_semF Tryz.func128 (by kernel_rfl) (by kernel_rfl) (sem_rounds_Rounds_Update r s R) h


/-- canter/sampler.New -/
def W_sampler_New  (R : Rs.T [.lf .ptr] → WP) : WP :=
  new [.int .u64 (0:Int), .int .u64 (0:Int), .int .u64 (0:Int), .int .u64 (0:Int), .bool false, .int .u64 (0:Int), .int .u64 (0:Int), .int .u64 (0:Int), .bool false, .int .u64 (0:Int), .int .u64 (0:Int)] fun n1 =>
  R (some ⟨n1, 0⟩)
theorem sem_sampler_New  (R : Rs.T [.lf .ptr] → WP) : Same (semF Tryz.prog Tryz.f36 (.s .o (.s .o .o)) [] [.lf .ptr] R) (fun w => W_sampler_New  R w) := ⟨by kernel_rfl⟩
theorem call_sampler_New  (R : Rs.T [.lf .ptr] → WP) (w : World) (h : W_sampler_New  R w) :
    CallX Tryz.prog N_sampler_New ([].map V1.enc) w fun v w' => ∃ x, v = (retTV (Rs.mk [.lf .ptr] x)).enc ∧ R x w' :=
  callX_of_semF Tryz.func36 (by kernel_rfl) (by kernel_rfl) (sem_sampler_New  R) h


/-- (*canter/sampler.Sampler).Acked -/
def W_sampler_Sampler_Acked (d : Option Pt) (o : Int) (a : Int) (a' : T_u4b) (R : Rs.T [] → WP) : WP :=
  new (Ks.mk K_u4b a') fun n1 =>
  ite' d.isNone (
  R ()) <|
  deref d fun q2 =>
  ld [.int .u64] q2 fun (x3 : Int) =>
  call Tryz.prog N_sat_Add [.lf (.int .u64 x3), .lf (.int .u64 a)] [.lf (.int .u64)] fun (r4 : Int) =>
  deref d fun q5 =>
  st q5 [.int .u64 r4] <|
  deref d fun q6 =>
  st ⟨q6.b, q6.o + 1⟩ [.int .u64 o] <|
  join [] (fun J7 =>
  drw <|
  deref d fun q9 =>
  deref d fun q10 =>
  ld [.int .u64] q9 fun (x11 : Int) =>
  ld [.int .u64] ⟨q10.b, q10.o + 3⟩ fun (x12 : Int) =>
  ite' (decide (x11 > x12)) (
  deref d fun q13 =>
  st ⟨q13.b, q13.o + 3⟩ [.int .u64 (0:Int)] <|
  J7 ()) <|
  J7 ()) fun (y8 : Unit) =>
  deref d fun q14 =>
  ld [.int .u64] ⟨q14.b, q14.o + 5⟩ fun (x15 : Int) =>
  call Tryz.prog N_sat_Add [.lf (.int .u64 x15), .lf (.int .u64 a)] [.lf (.int .u64)] fun (r16 : Int) =>
  deref d fun q17 =>
  st ⟨q17.b, q17.o + 5⟩ [.int .u64 r16] <|
  join [] (fun J18 =>
  join [.bool] (fun J20 =>
  drw <|
  deref d fun q22 =>
  ld [.bool] ⟨q22.b, q22.o + 4⟩ fun (x23 : Bool) =>
  ite' (!x23) (
  J20 true) <|
  ld [.int .u64] ⟨n1, 1⟩ fun (x24 : Int) =>
  deref d fun q25 =>
  ld [.int .u64] ⟨q25.b, q25.o + 6⟩ fun (x26 : Int) =>
  J20 (decide (x24 ≥ x26))) fun (y21 : Bool) =>
  ite' y21 (
  drw <|
  ld [.int .u64] ⟨n1, 1⟩ fun (x27 : Int) =>
  ld [.int .u64] ⟨n1, 2⟩ fun (x28 : Int) =>
  ld [.bool] ⟨n1, 4⟩ fun (x29 : Bool) =>
  deref d fun q30 =>
  st ⟨q30.b, q30.o + 6⟩ [.int .u64 x27] <|
  chk ⟨n1, 4⟩ (Ks.mk [.bool] x29) <|
  chk ⟨n1, 2⟩ (Ks.mk [.int .u64] x28) <|
  deref d fun q31 =>
  st ⟨q31.b, q31.o + 7⟩ [.int .u64 x28] <|
  chk ⟨n1, 4⟩ (Ks.mk [.bool] x29) <|
  deref d fun q32 =>
  st ⟨q32.b, q32.o + 8⟩ [.bool x29] <|
  drw <|
  ld [.int .u64] ⟨n1, 0⟩ fun (x33 : Int) =>
  ld [.int .u64] ⟨n1, 3⟩ fun (x34 : Int) =>
  ld [.int .u64] ⟨n1, 0⟩ fun (x35 : Int) =>
  call Tryz.prog N_sat_Sub [.lf (.int .u64 x33), .lf (.int .u64 x34)] [.lf (.int .u64)] fun (r36 : Int) =>
  chk ⟨n1, 0⟩ (Ks.mk [.int .u64] x35) <|
  call Tryz.prog N_sat_Sub [.lf (.int .u64 o), .lf (.int .u64 x35)] [.lf (.int .u64)] fun (r37 : Int) =>
  deref d fun q38 =>
  st ⟨q38.b, q38.o + 9⟩ [.int .u64 r36] <|
  deref d fun q39 =>
  st ⟨q39.b, q39.o + 10⟩ [.int .u64 r37] <|
  ld [.int .u64] ⟨n1, 0⟩ fun (x40 : Int) =>
  deref d fun q41 =>
  st ⟨q41.b, q41.o + 2⟩ [.int .u64 x40] <|
  J18 ()) <|
  J18 ()) fun (y19 : Unit) =>
  deref d fun q42 =>
  st ⟨q42.b, q42.o + 4⟩ [.bool true] <|
  R ()
theorem sem_sampler_Sampler_Acked (d : Option Pt) (o : Int) (a : Int) (a' : T_u4b) (R : Rs.T [] → WP) : Same (semF Tryz.prog Tryz.f49 (.s .o (.s (.s .o (.s .o .o)) (.s .o (.j [] (.s (.d (.f 0 [0] (.f 4 [0] (.f 1 [23] (.f 5 [27] (.f 2 [24] (.f 6 [28] (.f 3 [25] (.f 7 [29] (.f 8 [26, 30] .fin)))))))))) (.s .o .o)) (.s .o (.j [] (.j [(61, .lf .bool)] (.d (.f 0 [0] (.f 1 [46] (.f 2 [47] (.f 3 [48] (.f 4 [49] (.f 5 [50] (.f 6 [51] (.f 7 [7, 52] (.f 9 [0, 52] (.f 8 [52, 53] (.f 10 [52, 55] (.f 11 [52, 56] (.f 12 [52, 57] (.f 13 [52, 58] (.f 14 [52, 54, 59] (.f 15 [52, 60] .fin))))))))))))))))) (.s (.s (.d (.f 0 [0] (.f 1 [0] (.f 2 [0] (.f 3 [7] (.f 5 [7] (.f 7 [7] (.f 4 [65] (.f 6 [67] (.f 8 [69] (.f 9 [62] (.f 10 [71] (.f 11 [72] (.w 12 [66, 73] (.f 13 [63] (.f 14 [74] (.f 15 [75] (.w 16 [68, 76] (.f 17 [64] (.f 18 [77] (.f 19 [78] (.w 20 [70, 79] .fin)))))))))))))))))))))) (.s (.d (.f 0 [0] (.f 1 [0] (.f 2 [7] (.f 4 [7] (.f 7 [1] (.f 8 [7] (.f 3 [82] (.f 5 [84] (.f 9 [88] (.w 6 [83, 85] (.w 10 [87, 89] (.f 11 [80] (.f 12 [91] (.f 13 [92] (.w 14 [86, 93] (.f 15 [81] (.f 16 [94] (.f 17 [95] (.w 18 [90, 96] .fin)))))))))))))))))))) .o)) .o)) .o)))))) [.lf (.ptr d), .lf (.int .u64 o), .lf (.int .u64 a), .agg (Ks.mk K_u4b a')] [] R) (fun w => W_sampler_Sampler_Acked d o a a' R w) := ⟨by kernel_rfl⟩
theorem call_sampler_Sampler_Acked (d : Option Pt) (o : Int) (a : Int) (a' : T_u4b) (R : Rs.T [] → WP) (w : World) (h : W_sampler_Sampler_Acked d o a a' R w) :
    CallX Tryz.prog N_sampler_Sampler_Acked ([.lf (.ptr d), .lf (.int .u64 o), .lf (.int .u64 a), .agg (Ks.mk K_u4b a')].map V1.enc) w fun v w' => ∃ x, v = (retTV (Rs.mk [] x)).enc ∧ R x w' :=
  callX_of_semF Tryz.func49 (by kernel_rfl) (by kernel_rfl) (sem_sampler_Sampler_Acked d o a a' R) h


/-- (*canter/sampler.Sampler).Limit -/
def W_sampler_Sampler_Limit (s : Option Pt) (flight : Int) (R : Rs.T [] → WP) : WP :=
  ite' (!s.isNone) (
  deref s fun q1 =>
  ld [.int .u64] q1 fun (x2 : Int) =>
  call Tryz.prog N_sat_Add [.lf (.int .u64 x2), .lf (.int .u64 flight)] [.lf (.int .u64)] fun (r3 : Int) =>
  deref s fun q4 =>
  st ⟨q4.b, q4.o + 3⟩ [.int .u64 (if r3 > (1:Int) then r3 else (1:Int))] <|
  R ()) <|
  R ()
theorem sem_sampler_Sampler_Limit (s : Option Pt) (flight : Int) (R : Rs.T [] → WP) : Same (semF Tryz.prog Tryz.f83 (.s .o (.s .o .o)) [.lf (.ptr s), .lf (.int .u64 flight)] [] R) (fun w => W_sampler_Sampler_Limit s flight R w) := ⟨by kernel_rfl⟩
theorem call_sampler_Sampler_Limit (s : Option Pt) (flight : Int) (R : Rs.T [] → WP) (w : World) (h : W_sampler_Sampler_Limit s flight R w) :
    CallX Tryz.prog N_sampler_Sampler_Limit ([.lf (.ptr s), .lf (.int .u64 flight)].map V1.enc) w fun v w' => ∃ x, v = (retTV (Rs.mk [] x)).enc ∧ R x w' :=
  callX_of_semF Tryz.func83 (by kernel_rfl) (by kernel_rfl) (sem_sampler_Sampler_Limit s flight R) h


/-- (*canter/sampler.Sampler).Sent -/
def W_sampler_Sampler_Sent (s : Option Pt) (now : Int) (flight : Int) (R : Rs.T [.agg K_u4b] → WP) : WP :=
  new [.int .u64 (0:Int), .int .u64 (0:Int), .int .u64 (0:Int), .int .u64 (0:Int), .bool false] fun n1 =>
  ite' s.isNone (
  st ⟨n1, 0⟩ [.int .u64 (0:Int), .int .u64 (0:Int), .int .u64 (0:Int), .int .u64 (0:Int), .bool false] <|
  ld K_u4b ⟨n1, 0⟩ fun (x2 : T_u4b) =>
  R x2) <|
  join [] (fun J3 =>
  ite' (flight == (0:Int)) (
  deref s fun q5 =>
  st ⟨q5.b, q5.o + 2⟩ [.int .u64 now] <|
  deref s fun q6 =>
  st ⟨q6.b, q6.o + 1⟩ [.int .u64 now] <|
  J3 ()) <|
  J3 ()) fun (y4 : Unit) =>
  drw <|
  deref s fun q7 =>
  deref s fun q8 =>
  deref s fun q9 =>
  deref s fun q10 =>
  ld [.int .u64] q7 fun (x11 : Int) =>
  ld [.int .u64] ⟨q8.b, q8.o + 1⟩ fun (x12 : Int) =>
  ld [.int .u64] ⟨q9.b, q9.o + 2⟩ fun (x13 : Int) =>
  ld [.int .u64] ⟨q10.b, q10.o + 3⟩ fun (x14 : Int) =>
  st ⟨n1, 0⟩ [.int .u64 now, .int .u64 x11, .int .u64 x12, .int .u64 x13, .bool (x14 != (0:Int))] <|
  ld K_u4b ⟨n1, 0⟩ fun (x15 : T_u4b) =>
  R x15
theorem sem_sampler_Sampler_Sent (s : Option Pt) (now : Int) (flight : Int) (R : Rs.T [.agg K_u4b] → WP) : Same (semF Tryz.prog Tryz.f40 (.s .o (.s (.s .o (.s (.s .o .o) .o)) (.j [] (.s .o (.s .o .o)) (.s (.d (.f 0 [1] (.f 1 [0] (.f 5 [0] (.f 9 [0] (.f 13 [0] (.f 2 [21] (.f 6 [25] (.f 10 [29] (.f 14 [33] (.f 3 [22] (.f 7 [26] (.f 11 [30] (.f 15 [34] (.f 4 [23] (.f 8 [27] (.f 12 [31] (.f 16 [35] (.f 17 [36] (.f 18 [20, 24, 28, 32, 37] (.w 19 [6, 38] .fin))))))))))))))))))))) .o)))) [.lf (.ptr s), .lf (.int .u64 now), .lf (.int .u64 flight)] [.agg K_u4b] R) (fun w => W_sampler_Sampler_Sent s now flight R w) := ⟨by kernel_rfl⟩
theorem call_sampler_Sampler_Sent (s : Option Pt) (now : Int) (flight : Int) (R : Rs.T [.agg K_u4b] → WP) (w : World) (h : W_sampler_Sampler_Sent s now flight R w) :
    CallX Tryz.prog N_sampler_Sampler_Sent ([.lf (.ptr s), .lf (.int .u64 now), .lf (.int .u64 flight)].map V1.enc) w fun v w' => ∃ x, v = (retTV (Rs.mk [.agg K_u4b] x)).enc ∧ R x w' :=
  callX_of_semF Tryz.func40 (by kernel_rfl) (by kernel_rfl) (sem_sampler_Sampler_Sent s now flight R) h


/-- (*canter/sampler.Sampler).Take -/
def W_sampler_Sampler_Take (s : Option Pt) (now : Int) (lost : Int) (flight : Int) (R : Rs.T [.agg K_u8b] → WP) : WP :=
  new [.int .u64 (0:Int), .int .u64 (0:Int), .int .u64 (0:Int), .int .u64 (0:Int), .int .u64 (0:Int), .int .u64 (0:Int), .int .u64 (0:Int), .int .u64 (0:Int), .bool false] fun n1 =>
  ite' s.isNone (
  st ⟨n1, 0⟩ [.int .u64 (0:Int), .int .u64 (0:Int), .int .u64 (0:Int), .int .u64 (0:Int), .int .u64 (0:Int), .int .u64 (0:Int), .int .u64 (0:Int), .int .u64 (0:Int), .bool false] <|
  ld K_u8b ⟨n1, 0⟩ fun (x2 : T_u8b) =>
  R x2) <|
  deref s fun q3 =>
  ld [.int .u64] q3 fun (x4 : Int) =>
  new [.int .u64 (0:Int), .int .u64 (0:Int), .int .u64 (0:Int), .int .u64 (0:Int), .int .u64 (0:Int), .int .u64 (0:Int), .int .u64 (0:Int), .int .u64 (0:Int), .bool false] fun n5 =>
  st ⟨n5, 0⟩ [.int .u64 now, .int .u64 x4, .int .u64 (0:Int), .int .u64 (0:Int), .int .u64 (0:Int), .int .u64 (0:Int), .int .u64 lost, .int .u64 flight, .bool false] <|
  join [] (fun J6 =>
  deref s fun q8 =>
  ld K_bu3bu2 ⟨q8.b, q8.o + 4⟩ fun (x9 : T_bu3bu2) =>
  new [.bool false, .int .u64 (0:Int), .int .u64 (0:Int), .int .u64 (0:Int), .bool false, .int .u64 (0:Int), .int .u64 (0:Int)] fun n10 =>
  st ⟨n10, 0⟩ (Ks.mk K_bu3bu2 x9) <|
  ld [.bool] ⟨n10, 0⟩ fun (x11 : Bool) =>
  ite' x11 (
  drw <|
  ld [.int .u64] ⟨n10, 1⟩ fun (x12 : Int) =>
  ld [.int .u64] ⟨n10, 2⟩ fun (x13 : Int) =>
  ld [.bool] ⟨n10, 4⟩ fun (x14 : Bool) =>
  ld [.int .u64] ⟨n10, 6⟩ fun (x15 : Int) =>
  st ⟨n5, 5⟩ [.int .u64 x12] <|
  chk ⟨n10, 6⟩ (Ks.mk [.int .u64] x15) <|
  chk ⟨n10, 4⟩ (Ks.mk [.bool] x14) <|
  chk ⟨n10, 2⟩ (Ks.mk [.int .u64] x13) <|
  st ⟨n5, 2⟩ [.int .u64 x13] <|
  chk ⟨n10, 6⟩ (Ks.mk [.int .u64] x15) <|
  chk ⟨n10, 4⟩ (Ks.mk [.bool] x14) <|
  st ⟨n5, 8⟩ [.bool x14] <|
  chk ⟨n10, 6⟩ (Ks.mk [.int .u64] x15) <|
  st ⟨n5, 4⟩ [.int .u64 x15] <|
  drw <|
  ld [.int .u64] ⟨n10, 5⟩ fun (x16 : Int) =>
  ld [.int .u64] ⟨n10, 3⟩ fun (x17 : Int) =>
  call Tryz.prog N_sat_Sub [.lf (.int .u64 now), .lf (.int .u64 x17)] [.lf (.int .u64)] fun (r18 : Int) =>
  chk ⟨n10, 5⟩ (Ks.mk [.int .u64] x16) <|
  new [.int .u64 x16, .int .u64 r18] fun n19 =>
  call Tryz.prog N_sampler_longest [.lf (.sl ⟨some ⟨n19, 0⟩, 2, 2⟩)] [.lf (.int .u64)] fun (r20 : Int) =>
  st ⟨n5, 3⟩ [.int .u64 r20] <|
  J6 ()) <|
  J6 ()) fun (y7 : Unit) =>
  deref s fun q21 =>
  st ⟨q21.b, q21.o + 4⟩ [.bool false, .int .u64 (0:Int), .int .u64 (0:Int), .int .u64 (0:Int), .bool false, .int .u64 (0:Int), .int .u64 (0:Int)] <|
  ld K_u8b ⟨n5, 0⟩ fun (x22 : T_u8b) =>
  st ⟨n1, 0⟩ (Ks.mk K_u8b x22) <|
  ld K_u8b ⟨n1, 0⟩ fun (x23 : T_u8b) =>
  R x23
theorem sem_sampler_Sampler_Take (s : Option Pt) (now : Int) (lost : Int) (flight : Int) (R : Rs.T [.agg K_u8b] → WP) : Same (semF Tryz.prog Tryz.f102 (.s .o (.s (.s .o (.s (.s .o .o) .o)) (.s .o (.j [] (.s .o (.s .o (.s (.s (.d (.f 0 [10] (.f 2 [10] (.f 4 [10] (.f 6 [10] (.f 1 [28] (.f 3 [30] (.f 5 [32] (.f 7 [34] (.f 8 [9] (.w 9 [29, 36] (.f 10 [9] (.w 11 [31, 37] (.f 12 [9] (.w 13 [33, 38] (.f 14 [9] (.w 15 [35, 39] .fin))))))))))))))))) (.d (.f 0 [10] (.f 2 [1] (.f 3 [10] (.f 1 [40] (.f 4 [43] (.w 5 [42, 44] (.w 6 [41, 45] (.w 7 [46] (.f 8 [9] (.w 9 [47, 48] .fin)))))))))))) .o))) (.s .o (.s .o .o)))))) [.lf (.ptr s), .lf (.int .u64 now), .lf (.int .u64 lost), .lf (.int .u64 flight)] [.agg K_u8b] R) (fun w => W_sampler_Sampler_Take s now lost flight R w) := ⟨by kernel_rfl⟩
theorem call_sampler_Sampler_Take (s : Option Pt) (now : Int) (lost : Int) (flight : Int) (R : Rs.T [.agg K_u8b] → WP) (w : World) (h : W_sampler_Sampler_Take s now lost flight R w) :
    CallX Tryz.prog N_sampler_Sampler_Take ([.lf (.ptr s), .lf (.int .u64 now), .lf (.int .u64 lost), .lf (.int .u64 flight)].map V1.enc) w fun v w' => ∃ x, v = (retTV (Rs.mk [.agg K_u8b] x)).enc ∧ R x w' :=
  callX_of_semF Tryz.func102 (by kernel_rfl) (by kernel_rfl) (sem_sampler_Sampler_Take s now lost flight R) h


/-- canter/sampler.longest -/
def W_sampler_longest (l : Sl) (R : Rs.T [.lf (.int .u64)] → WP) : WP :=
  loop [.int .u64, .int .i64] ((0:Int), (0:Int)) fun J1 (y2 : Int × Int) =>
  ite' (decide (y2.2 < ((l.len : Nat) : Int))) (
  idx l y2.2 1 fun q3 =>
  ld [.int .u64] q3 fun (x4 : Int) =>
  ite' (decide (x4 ≤ y2.1)) (
  J1 (y2.1, (IntKind.i64.wrap (y2.2 + (1:Int))))) <|
  J1 (x4, (IntKind.i64.wrap (y2.2 + (1:Int))))) <|
  R y2.1
theorem sem_sampler_longest (l : Sl) (R : Rs.T [.lf (.int .u64)] → WP) : Same (semF Tryz.prog Tryz.f139 (.s .o (.s .o (.s .o (.s (.s .o (.b (.l [(3, .lf (.int .u64)), (8, .lf (.int .i64))] (.s .o (.s (.s .o .o) (.s (.b (.s .o (.s (.s .o (.s .o .o)) .o))) .o)))))) (.s .o .o))))) [.lf (.sl l)] [.lf (.int .u64)] R) (fun w => W_sampler_longest l R w) := ⟨by kernel_rfl⟩
theorem call_sampler_longest (l : Sl) (R : Rs.T [.lf (.int .u64)] → WP) (w : World) (h : W_sampler_longest l R w) :
    CallX Tryz.prog N_sampler_longest ([.lf (.sl l)].map V1.enc) w fun v w' => ∃ x, v = (retTV (Rs.mk [.lf (.int .u64)] x)).enc ∧ R x w' :=
  callX_of_semF Tryz.func139 (by kernel_rfl) (by kernel_rfl) (sem_sampler_longest l R) h


/-- canter/sat.Add -/
def W_sat_Add (a : Int) (b : Int) (R : Rs.T [.lf (.int .u64)] → WP) : WP :=
  call Tryz.prog N_math_bits_Add64 [.lf (.int .u64 a), .lf (.int .u64 b), .lf (.int .u64 (0:Int))] [.lf (.int .u64), .lf (.int .u64)] fun (r1 : Int × Int) =>
  ite' (decide (r1.2 > (0:Int))) (
  R (18446744073709551615:Int)) <|
  R r1.1
theorem sem_sat_Add (a : Int) (b : Int) (R : Rs.T [.lf (.int .u64)] → WP) : Same (semF Tryz.prog Tryz.f44 (.s .o (.s .o (.s (.s .o (.s (.s .o .o) .o)) (.s .o .o)))) [.lf (.int .u64 a), .lf (.int .u64 b)] [.lf (.int .u64)] R) (fun w => W_sat_Add a b R w) := ⟨by kernel_rfl⟩
theorem call_sat_Add (a : Int) (b : Int) (R : Rs.T [.lf (.int .u64)] → WP) (w : World) (h : W_sat_Add a b R w) :
    CallX Tryz.prog N_sat_Add ([.lf (.int .u64 a), .lf (.int .u64 b)].map V1.enc) w fun v w' => ∃ x, v = (retTV (Rs.mk [.lf (.int .u64)] x)).enc ∧ R x w' :=
  callX_of_semF Tryz.func44 (by kernel_rfl) (by kernel_rfl) (sem_sat_Add a b R) h


/-- canter/sat.Mul -/
def W_sat_Mul (a : Int) (b : Int) (R : Rs.T [.lf (.int .u64)] → WP) : WP :=
  call Tryz.prog N_math_bits_Mul64 [.lf (.int .u64 a), .lf (.int .u64 b)] [.lf (.int .u64), .lf (.int .u64)] fun (r1 : Int × Int) =>
  ite' (decide (r1.1 > (0:Int))) (
  R (18446744073709551615:Int)) <|
  R r1.2
theorem sem_sat_Mul (a : Int) (b : Int) (R : Rs.T [.lf (.int .u64)] → WP) : Same (semF Tryz.prog Tryz.f178 (.s .o (.s .o (.s (.s .o (.s (.s .o .o) .o)) (.s .o .o)))) [.lf (.int .u64 a), .lf (.int .u64 b)] [.lf (.int .u64)] R) (fun w => W_sat_Mul a b R w) := ⟨by kernel_rfl⟩
theorem call_sat_Mul (a : Int) (b : Int) (R : Rs.T [.lf (.int .u64)] → WP) (w : World) (h : W_sat_Mul a b R w) :
    CallX Tryz.prog N_sat_Mul ([.lf (.int .u64 a), .lf (.int .u64 b)].map V1.enc) w fun v w' => ∃ x, v = (retTV (Rs.mk [.lf (.int .u64)] x)).enc ∧ R x w' :=
  callX_of_semF Tryz.func178 (by kernel_rfl) (by kernel_rfl) (sem_sat_Mul a b R) h

/-- canter/sat.Sub -/
def W_sat_Sub (a : Int) (b : Int) (R : Rs.T [.lf (.int .u64)] → WP) : WP :=
  R (IntKind.u64.wrap (a - (if b < a then b else a)))
theorem sem_sat_Sub (a : Int) (b : Int) (R : Rs.T [.lf (.int .u64)] → WP) : Same (semF Tryz.prog Tryz.f100 (.s .o (.s .o .o)) [.lf (.int .u64 a), .lf (.int .u64 b)] [.lf (.int .u64)] R) (fun w => W_sat_Sub a b R w) := ⟨by kernel_rfl⟩
theorem call_sat_Sub (a : Int) (b : Int) (R : Rs.T [.lf (.int .u64)] → WP) (w : World) (h : W_sat_Sub a b R w) :
    CallX Tryz.prog N_sat_Sub ([.lf (.int .u64 a), .lf (.int .u64 b)].map V1.enc) w fun v w' => ∃ x, v = (retTV (Rs.mk [.lf (.int .u64)] x)).enc ∧ R x w' :=
  callX_of_semF Tryz.func100 (by kernel_rfl) (by kernel_rfl) (sem_sat_Sub a b R) h


/-- slices.ContainsFunc[[]canter/api.Range,canter/api.Range] -/
def W_slices_ContainsFunc_sapiRangeapiRange (s : Sl) (f : Fv) (R : Rs.T [.lf .bool] → WP) : WP :=
  call Tryz.prog N_slices_IndexFunc_sapiRangeapiRange [.lf (.sl s), .lf (.fn f)] [.lf (.int .i64)] fun (r1 : Int) =>
  R (decide (r1 ≥ (0:Int)))
theorem sem_slices_ContainsFunc_sapiRangeapiRange (s : Sl) (f : Fv) (R : Rs.T [.lf .bool] → WP) : Same (semF Tryz.prog Tryz.f125 (.s .o (.s .o .o)) [.lf (.sl s), .lf (.fn f)] [.lf .bool] R) (fun w => W_slices_ContainsFunc_sapiRangeapiRange s f R w) := ⟨by kernel_rfl⟩
theorem call_slices_ContainsFunc_sapiRangeapiRange (s : Sl) (f : Fv) (R : Rs.T [.lf .bool] → WP) (w : World) (h : W_slices_ContainsFunc_sapiRangeapiRange s f R w) :
    CallX Tryz.prog N_slices_ContainsFunc_sapiRangeapiRange ([.lf (.sl s), .lf (.fn f)].map V1.enc) w fun v w' => ∃ x, v = (retTV (Rs.mk [.lf .bool] x)).enc ∧ R x w' :=
  callX_of_semF Tryz.func125 (by kernel_rfl) (by kernel_rfl) (sem_slices_ContainsFunc_sapiRangeapiRange s f R) h


/-- slices.IndexFunc[[]canter/api.Range,canter/api.Range] -/
def W_slices_IndexFunc_sapiRangeapiRange (s : Sl) (f : Fv) (R : Rs.T [.lf (.int .i64)] → WP) : WP :=
  loop [.int .i64] (0:Int) fun J1 (y2 : Int) =>
  ite' (decide (y2 < ((s.len : Nat) : Int))) (
  idx s y2 2 fun q3 =>
  ld [.int .u64, .int .u64] q3 fun (x4 : Int × Int) =>
  callv Tryz.prog f [.agg (Ks.mk [.int .u64, .int .u64] x4)] [.lf .bool] fun (r5 : Bool) =>
  ite' r5 (
  R y2) <|
  J1 (IntKind.i64.wrap (y2 + (1:Int)))) <|
  R (-1:Int)
theorem sem_slices_IndexFunc_sapiRangeapiRange (s : Sl) (f : Fv) (R : Rs.T [.lf (.int .i64)] → WP) : Same (semF Tryz.prog Tryz.f156 (.s .o (.s (.s .o (.b (.l [(8, .lf (.int .i64))] (.s .o (.s (.s .o .o) (.s (.b (.s .o (.s .o (.s (.s .o .o) .o)))) .o)))))) (.s .o .o))) [.lf (.sl s), .lf (.fn f)] [.lf (.int .i64)] R) (fun w => W_slices_IndexFunc_sapiRangeapiRange s f R w) := ⟨by kernel_rfl⟩
theorem call_slices_IndexFunc_sapiRangeapiRange (s : Sl) (f : Fv) (R : Rs.T [.lf (.int .i64)] → WP) (w : World) (h : W_slices_IndexFunc_sapiRangeapiRange s f R w) :
    CallX Tryz.prog N_slices_IndexFunc_sapiRangeapiRange ([.lf (.sl s), .lf (.fn f)].map V1.enc) w fun v w' => ∃ x, v = (retTV (Rs.mk [.lf (.int .i64)] x)).enc ∧ R x w' :=
  callX_of_semF Tryz.func156 (by kernel_rfl) (by kernel_rfl) (sem_slices_IndexFunc_sapiRangeapiRange s f R) h


/-- canter/sock.New -/
def W_sock_New (id : Int) (c : T_i4u2bi2) (R : Rs.T [.lf .ptr] → WP) : WP :=
  new (Ks.mk K_i4u2bi2 c) fun n1 =>
  ld [.int .i64] ⟨n1, 8⟩ fun (x2 : Int) =>
  drw <|
  ld [.int .i64] ⟨n1, 7⟩ fun (x3 : Int) =>
  call Tryz.prog N_buffer_New [.lf (.int .i64 (1073741824:Int))] [.lf .ptr] fun (r4 : Option Pt) =>
  chk ⟨n1, 7⟩ (Ks.mk [.int .i64] x3) <|
  call Tryz.prog N_board_New [] [.lf .ptr] fun (r5 : Option Pt) =>
  chk ⟨n1, 7⟩ (Ks.mk [.int .i64] x3) <|
  call Tryz.prog N_sampler_New [] [.lf .ptr] fun (r6 : Option Pt) =>
  chk ⟨n1, 7⟩ (Ks.mk [.int .i64] x3) <|
  call Tryz.prog N_bbr_New [.lf (.int .u64 (IntKind.u64.wrap (if (9000:Int) < (if (100:Int) > x2 then (100:Int) else x2) then (9000:Int) else (if (100:Int) > x2 then (100:Int) else x2))))] [.lf .ptr] fun (r7 : Option Pt) =>
  chk ⟨n1, 7⟩ (Ks.mk [.int .i64] x3) <|
  new [.int .i64 id, .int .i64 (if (9000:Int) < (if (100:Int) > x2 then (100:Int) else x2) then (9000:Int) else (if (100:Int) > x2 then (100:Int) else x2)), .int .i64 x3, .ptr r4, .ptr r5, .ptr r6, .ptr r7, .int .u64 (0:Int), .int .u64 (0:Int)] fun n8 =>
  R (some ⟨n8, 0⟩)
theorem sem_sock_New (id : Int) (c : T_i4u2bi2) (R : Rs.T [.lf .ptr] → WP) : Same (semF Tryz.prog Tryz.f8 (.s .o (.s .o (.s (.d (.f 0 [0] (.f 1 [5] (.f 2 [3] (.f 7 [5] (.f 3 [12] (.f 8 [17] (.w 4 [] (.w 5 [] (.w 6 [] (.w 9 [18] (.f 10 [10, 11, 13, 14, 15, 16, 19] (.w 11 [20] (.w 12 [21] .fin)))))))))))))) .o))) [.lf (.int .i64 id), .agg (Ks.mk K_i4u2bi2 c)] [.lf .ptr] R) (fun w => W_sock_New id c R w) := ⟨by kernel_rfl⟩
theorem call_sock_New (id : Int) (c : T_i4u2bi2) (R : Rs.T [.lf .ptr] → WP) (w : World) (h : W_sock_New id c R w) :
    CallX Tryz.prog N_sock_New ([.lf (.int .i64 id), .agg (Ks.mk K_i4u2bi2 c)].map V1.enc) w fun v w' => ∃ x, v = (retTV (Rs.mk [.lf .ptr] x)).enc ∧ R x w' :=
  callX_of_semF Tryz.func8 (by kernel_rfl) (by kernel_rfl) (sem_sock_New id c R) h


/-- (*canter/sock.Sock).Ack -/
def W_sock_Sock_Ack (s : Option Pt) (now : Int) (upto : Int) (sacks : Sl) (R : Rs.T [.lf (.int .i64)] → WP) : WP :=
  ite' s.isNone (
  R (2:Int)) <|
  deref s fun q1 =>
  ld [.ptr] ⟨q1.b, q1.o + 4⟩ fun (x2 : Option Pt) =>
  call Tryz.prog N_board_Board_Ack [.lf (.ptr x2), .lf (.int .u64 upto), .lf (.sl sacks)] [.lf .sl, .lf (.int .u64), .lf (.int .i64)] fun (r3 : Sl × Int × Int) =>
  ite' (r3.2.2 != (0:Int)) (
  R r3.2.2) <|
  deref s fun q4 =>
  ld [.ptr] ⟨q4.b, q4.o + 3⟩ fun (x5 : Option Pt) =>
  call Tryz.prog N_buffer_Buffer_Acked [.lf (.ptr x5), .lf (.int .u64 upto)] [.lf (.int .i64)] fun (r6 : Int) =>
  loop [.sl] r3.1 fun J7 (y8 : Sl) =>
  ite' (((y8.len : Nat) : Int) == (0:Int)) (
  call Tryz.prog N_sock_Sock_learn [.lf (.ptr s), .lf (.int .u64 now), .lf (.int .u64 r3.2.1)] [] fun (r9 : Unit) =>
  R (0:Int)) <|
  idx y8 (0:Int) 9 fun q10 =>
  ld K_u6b3 q10 fun (x11 : T_u6b3) =>
  new [.int .u64 (0:Int), .int .u64 (0:Int), .int .u64 (0:Int), .int .u64 (0:Int), .int .u64 (0:Int), .int .u64 (0:Int), .bool false, .bool false, .bool false] fun n12 =>
  st ⟨n12, 0⟩ (Ks.mk K_u6b3 x11) <|
  slc y8 (some (1:Int)) none none 9 fun s13 =>
  drw <|
  deref s fun q14 =>
  ld [.int .u64] ⟨n12, 1⟩ fun (x15 : Int) =>
  ld [.int .u64] ⟨n12, 0⟩ fun (x16 : Int) =>
  ld K_u4b ⟨n12, 2⟩ fun (x17 : T_u4b) =>
  ld [.ptr] ⟨q14.b, q14.o + 5⟩ fun (x18 : Option Pt) =>
  call Tryz.prog N_sampler_Sampler_Acked [.lf (.ptr x18), .lf (.int .u64 now), .lf (.int .u64 (IntKind.u64.wrap (x15 - x16))), .agg (Ks.mk K_u4b x17)] [] fun (r19 : Unit) =>
  J7 s13
theorem sem_sock_Sock_Ack (s : Option Pt) (now : Int) (upto : Int) (sacks : Sl) (R : Rs.T [.lf (.int .i64)] → WP) : Same (semF Tryz.prog Tryz.f14 (.s .o (.s (.s .o (.s (.s .o .o) .o)) (.s .o (.s (.s .o (.s (.s .o .o) .o)) (.s .o (.s .o (.s (.b (.l [(9, .lf .sl)] (.b (.s (.s .o (.s .o .o)) (.s .o (.s .o (.d (.f 0 [0] (.f 4 [1] (.f 5 [12] (.f 7 [12] (.f 10 [12] (.f 1 [43] (.f 6 [48] (.f 8 [50] (.f 11 [53] (.f 2 [44] (.f 9 [49, 51] (.f 3 [45] (.w 12 [46, 47, 52, 54] .fin)))))))))))))))))))) (.s .o (.s .o .o))))))))) [.lf (.ptr s), .lf (.int .u64 now), .lf (.int .u64 upto), .lf (.sl sacks)] [.lf (.int .i64)] R) (fun w => W_sock_Sock_Ack s now upto sacks R w) := ⟨by kernel_rfl⟩
theorem call_sock_Sock_Ack (s : Option Pt) (now : Int) (upto : Int) (sacks : Sl) (R : Rs.T [.lf (.int .i64)] → WP) (w : World) (h : W_sock_Sock_Ack s now upto sacks R w) :
    CallX Tryz.prog N_sock_Sock_Ack ([.lf (.ptr s), .lf (.int .u64 now), .lf (.int .u64 upto), .lf (.sl sacks)].map V1.enc) w fun v w' => ∃ x, v = (retTV (Rs.mk [.lf (.int .i64)] x)).enc ∧ R x w' :=
  callX_of_semF Tryz.func14 (by kernel_rfl) (by kernel_rfl) (sem_sock_Sock_Ack s now upto sacks R) h


/-- (*canter/sock.Sock).Done -/
def W_sock_Sock_Done (s : Option Pt) (n : Int) (R : Rs.T [.lf (.int .i64)] → WP) : WP :=
  join [] (fun J1 =>
  ite' s.isNone (
  R (2:Int)) <|
  ite' (decide (n < (1:Int))) (
  R (1:Int)) <|
  deref s fun q3 =>
  ld [.int .u64] ⟨q3.b, q3.o + 7⟩ fun (x4 : Int) =>
  ite' (decide ((IntKind.u64.wrap n) > x4)) (
  R (1:Int)) <|
  J1 ()) fun (y2 : Unit) =>
  deref s fun q5 =>
  ld [.int .u64] ⟨q5.b, q5.o + 7⟩ fun (x6 : Int) =>
  deref s fun q7 =>
  st ⟨q7.b, q7.o + 7⟩ [.int .u64 (IntKind.u64.wrap (x6 - (IntKind.u64.wrap n)))] <|
  R (0:Int)
theorem sem_sock_Sock_Done (s : Option Pt) (n : Int) (R : Rs.T [.lf (.int .i64)] → WP) : Same (semF Tryz.prog Tryz.f13 (.s .o (.j [] (.b (.s .o (.s (.s .o .o) (.s .o (.s (.s .o .o) .o))))) (.s .o (.s .o .o)))) [.lf (.ptr s), .lf (.int .i64 n)] [.lf (.int .i64)] R) (fun w => W_sock_Sock_Done s n R w) := ⟨by kernel_rfl⟩
theorem call_sock_Sock_Done (s : Option Pt) (n : Int) (R : Rs.T [.lf (.int .i64)] → WP) (w : World) (h : W_sock_Sock_Done s n R w) :
    CallX Tryz.prog N_sock_Sock_Done ([.lf (.ptr s), .lf (.int .i64 n)].map V1.enc) w fun v w' => ∃ x, v = (retTV (Rs.mk [.lf (.int .i64)] x)).enc ∧ R x w' :=
  callX_of_semF Tryz.func13 (by kernel_rfl) (by kernel_rfl) (sem_sock_Sock_Done s n R) h


/-- (*canter/sock.Sock).Emit -/
def W_sock_Sock_Emit (d : Option Pt) (o : Int) (R : Rs.T [.agg K_iuiub, .lf (.int .i64)] → WP) : WP :=
  new [.int .i64 (0:Int), .int .u64 (0:Int), .int .i64 (0:Int), .int .u64 (0:Int), .bool false] fun n1 =>
  ite' d.isNone (
  st ⟨n1, 0⟩ [.int .i64 (0:Int), .int .u64 (0:Int), .int .i64 (0:Int), .int .u64 (0:Int), .bool false] <|
  ld K_iuiub ⟨n1, 0⟩ fun (x2 : T_iuiub) =>
  R (x2, (2:Int))) <|
  call Tryz.prog N_sock_Sock_may [.lf (.ptr d)] [.lf (.int .i64)] fun (r3 : Int) =>
  ite' (r3 != (0:Int)) (
  st ⟨n1, 0⟩ [.int .i64 (0:Int), .int .u64 (0:Int), .int .i64 (0:Int), .int .u64 (0:Int), .bool false] <|
  ld K_iuiub ⟨n1, 0⟩ fun (x4 : T_iuiub) =>
  R (x4, r3)) <|
  drw <|
  deref d fun q5 =>
  ld [.ptr] ⟨q5.b, q5.o + 5⟩ fun (x6 : Option Pt) =>
  both (
  call Tryz.prog N_sock_Sock_Flight [.lf (.ptr d)] [.lf (.int .u64)] fun (r7 : Int) =>
  chk ⟨q5.b, q5.o + 5⟩ (Ks.mk [.ptr] x6) <|
  both (
  call Tryz.prog N_sampler_Sampler_Sent [.lf (.ptr x6), .lf (.int .u64 o), .lf (.int .u64 r7)] [.agg K_u4b] fun (r8 : T_u4b) =>
  new [.int .u64 (0:Int), .int .u64 (0:Int), .int .u64 (0:Int), .int .u64 (0:Int), .bool false] fun n9 =>
  chk ⟨q5.b, q5.o + 5⟩ (Ks.mk [.ptr] x6) <|
  st ⟨n9, 0⟩ (Ks.mk K_u4b r8) <|
  drw <|
  ld K_u4b ⟨n9, 0⟩ fun (x10 : T_u4b) =>
  deref d fun q11 =>
  ld [.ptr] ⟨q11.b, q11.o + 4⟩ fun (x12 : Option Pt) =>
  both (
  call Tryz.prog N_board_Board_Again [.lf (.ptr x12), .agg (Ks.mk K_u4b x10)] [.agg [.int .u64, .int .u64], .lf .bool] fun (r13 : (Int × Int) × Bool) =>
  new [.int .u64 (0:Int), .int .u64 (0:Int)] fun n14 =>
  chk ⟨q11.b, q11.o + 4⟩ (Ks.mk [.ptr] x12) <|
  chk ⟨n9, 0⟩ (Ks.mk K_u4b x10) <|
  st ⟨n14, 0⟩ (Ks.mk [.int .u64, .int .u64] r13.1) <|
  join [] (fun J15 =>
  ite' (!r13.2) (
  drw <|
  deref d fun q17 =>
  ld [.ptr] ⟨q17.b, q17.o + 3⟩ fun (x18 : Option Pt) =>
  call Tryz.prog N_sock_Sock_Tso [.lf (.ptr d)] [.lf (.int .i64)] fun (r19 : Int) =>
  chk ⟨q17.b, q17.o + 3⟩ (Ks.mk [.ptr] x18) <|
  call Tryz.prog N_buffer_Buffer_Take [.lf (.ptr x18), .lf (.int .i64 r19)] [.agg [.int .u64, .int .u64], .lf .bool] fun (r20 : (Int × Int) × Bool) =>
  st ⟨n14, 0⟩ (Ks.mk [.int .u64, .int .u64] r20.1) <|
  drw <|
  ld K_u4b ⟨n9, 0⟩ fun (x21 : T_u4b) =>
  deref d fun q22 =>
  ld [.int .u64] ⟨n14, 0⟩ fun (x23 : Int) =>
  ld [.int .u64] ⟨n14, 1⟩ fun (x24 : Int) =>
  ld [.ptr] ⟨q22.b, q22.o + 4⟩ fun (x25 : Option Pt) =>
  call Tryz.prog N_board_Board_Sent [.lf (.ptr x25), .lf (.int .u64 x23), .lf (.int .u64 x24), .agg (Ks.mk K_u4b x21)] [.lf (.int .i64)] fun (r26 : Int) =>
  J15 ()) <|
  J15 ()) fun (y16 : Unit) =>
  drw <|
  deref d fun q27 =>
  ld [.int .u64] ⟨n14, 0⟩ fun (x28 : Int) =>
  ld [.int .u64] ⟨n14, 1⟩ fun (x29 : Int) =>
  ld [.int .u64] ⟨n14, 0⟩ fun (x30 : Int) =>
  deref d fun q31 =>
  ld [.int .i64] q27 fun (x32 : Int) =>
  ld [.int .u64] ⟨q31.b, q31.o + 8⟩ fun (x33 : Int) =>
  new [.int .i64 (0:Int), .int .u64 (0:Int), .int .i64 (0:Int), .int .u64 (0:Int), .bool false] fun n34 =>
  chk ⟨q31.b, q31.o + 8⟩ (Ks.mk [.int .u64] x33) <|
  chk q27 (Ks.mk [.int .i64] x32) <|
  chk ⟨n14, 0⟩ (Ks.mk [.int .u64] x30) <|
  chk ⟨n14, 1⟩ (Ks.mk [.int .u64] x29) <|
  chk ⟨n14, 0⟩ (Ks.mk [.int .u64] x28) <|
  st ⟨n34, 0⟩ [.int .i64 x32, .int .u64 x28, .int .i64 (IntKind.i64.wrap (IntKind.u64.wrap (x29 - x30))), .int .u64 (if x33 > o then x33 else o), .bool r13.2] <|
  drw <|
  ld [.int .u64] ⟨n34, 3⟩ fun (x35 : Int) =>
  ld [.int .i64] ⟨n34, 2⟩ fun (x36 : Int) =>
  deref d fun q37 =>
  ld [.ptr] ⟨q37.b, q37.o + 6⟩ fun (x38 : Option Pt) =>
  call Tryz.prog N_bbr_Model_State [.lf (.ptr x38)] [.agg K_i2u6b2] fun (r39 : T_i2u6b2) =>
  chk ⟨n34, 2⟩ (Ks.mk [.int .i64] x36) <|
  chk ⟨n34, 3⟩ (Ks.mk [.int .u64] x35) <|
  call Tryz.prog N_delay_Of [.lf (.int .i64 x36), .lf (.int .u64 r39.2.2.1)] [.lf (.int .u64)] fun (r40 : Int) =>
  chk ⟨n34, 3⟩ (Ks.mk [.int .u64] x35) <|
  call Tryz.prog N_sat_Add [.lf (.int .u64 x35), .lf (.int .u64 r40)] [.lf (.int .u64)] fun (r41 : Int) =>
  deref d fun q42 =>
  st ⟨q42.b, q42.o + 8⟩ [.int .u64 r41] <|
  drw <|
  deref d fun q43 =>
  ld [.int .i64] ⟨n34, 2⟩ fun (x44 : Int) =>
  ld [.int .u64] ⟨q43.b, q43.o + 7⟩ fun (x45 : Int) =>
  deref d fun q46 =>
  st ⟨q46.b, q46.o + 7⟩ [.int .u64 (IntKind.u64.wrap (x45 + (IntKind.u64.wrap x44)))] <|
  ld K_iuiub ⟨n34, 0⟩ fun (x47 : T_iuiub) =>
  st ⟨n1, 0⟩ (Ks.mk K_iuiub x47) <|
  ld K_iuiub ⟨n1, 0⟩ fun (x48 : T_iuiub) =>
  R (x48, (0:Int))) <|
  new [.int .u64 (0:Int), .int .u64 (0:Int)] fun n49 =>
  chk ⟨q11.b, q11.o + 4⟩ (Ks.mk [.ptr] x12) <|
  chk ⟨n9, 0⟩ (Ks.mk K_u4b x10) <|
  call Tryz.prog N_board_Board_Again [.lf (.ptr x12), .agg (Ks.mk K_u4b x10)] [.agg [.int .u64, .int .u64], .lf .bool] fun (r50 : (Int × Int) × Bool) =>
  st ⟨n49, 0⟩ (Ks.mk [.int .u64, .int .u64] r50.1) <|
  join [] (fun J51 =>
  ite' (!r50.2) (
  drw <|
  deref d fun q53 =>
  ld [.ptr] ⟨q53.b, q53.o + 3⟩ fun (x54 : Option Pt) =>
  call Tryz.prog N_sock_Sock_Tso [.lf (.ptr d)] [.lf (.int .i64)] fun (r55 : Int) =>
  chk ⟨q53.b, q53.o + 3⟩ (Ks.mk [.ptr] x54) <|
  call Tryz.prog N_buffer_Buffer_Take [.lf (.ptr x54), .lf (.int .i64 r55)] [.agg [.int .u64, .int .u64], .lf .bool] fun (r56 : (Int × Int) × Bool) =>
  st ⟨n49, 0⟩ (Ks.mk [.int .u64, .int .u64] r56.1) <|
  drw <|
  ld K_u4b ⟨n9, 0⟩ fun (x57 : T_u4b) =>
  deref d fun q58 =>
  ld [.int .u64] ⟨n49, 0⟩ fun (x59 : Int) =>
  ld [.int .u64] ⟨n49, 1⟩ fun (x60 : Int) =>
  ld [.ptr] ⟨q58.b, q58.o + 4⟩ fun (x61 : Option Pt) =>
  call Tryz.prog N_board_Board_Sent [.lf (.ptr x61), .lf (.int .u64 x59), .lf (.int .u64 x60), .agg (Ks.mk K_u4b x57)] [.lf (.int .i64)] fun (r62 : Int) =>
  J51 ()) <|
  J51 ()) fun (y52 : Unit) =>
  drw <|
  deref d fun q63 =>
  ld [.int .u64] ⟨n49, 0⟩ fun (x64 : Int) =>
  ld [.int .u64] ⟨n49, 1⟩ fun (x65 : Int) =>
  ld [.int .u64] ⟨n49, 0⟩ fun (x66 : Int) =>
  deref d fun q67 =>
  ld [.int .i64] q63 fun (x68 : Int) =>
  ld [.int .u64] ⟨q67.b, q67.o + 8⟩ fun (x69 : Int) =>
  new [.int .i64 (0:Int), .int .u64 (0:Int), .int .i64 (0:Int), .int .u64 (0:Int), .bool false] fun n70 =>
  chk ⟨q67.b, q67.o + 8⟩ (Ks.mk [.int .u64] x69) <|
  chk q63 (Ks.mk [.int .i64] x68) <|
  chk ⟨n49, 0⟩ (Ks.mk [.int .u64] x66) <|
  chk ⟨n49, 1⟩ (Ks.mk [.int .u64] x65) <|
  chk ⟨n49, 0⟩ (Ks.mk [.int .u64] x64) <|
  st ⟨n70, 0⟩ [.int .i64 x68, .int .u64 x64, .int .i64 (IntKind.i64.wrap (IntKind.u64.wrap (x65 - x66))), .int .u64 (if x69 > o then x69 else o), .bool r50.2] <|
  drw <|
  ld [.int .u64] ⟨n70, 3⟩ fun (x71 : Int) =>
  ld [.int .i64] ⟨n70, 2⟩ fun (x72 : Int) =>
  deref d fun q73 =>
  ld [.ptr] ⟨q73.b, q73.o + 6⟩ fun (x74 : Option Pt) =>
  call Tryz.prog N_bbr_Model_State [.lf (.ptr x74)] [.agg K_i2u6b2] fun (r75 : T_i2u6b2) =>
  chk ⟨n70, 2⟩ (Ks.mk [.int .i64] x72) <|
  chk ⟨n70, 3⟩ (Ks.mk [.int .u64] x71) <|
  call Tryz.prog N_delay_Of [.lf (.int .i64 x72), .lf (.int .u64 r75.2.2.1)] [.lf (.int .u64)] fun (r76 : Int) =>
  chk ⟨n70, 3⟩ (Ks.mk [.int .u64] x71) <|
  call Tryz.prog N_sat_Add [.lf (.int .u64 x71), .lf (.int .u64 r76)] [.lf (.int .u64)] fun (r77 : Int) =>
  deref d fun q78 =>
  st ⟨q78.b, q78.o + 8⟩ [.int .u64 r77] <|
  drw <|
  deref d fun q79 =>
  ld [.int .i64] ⟨n70, 2⟩ fun (x80 : Int) =>
  ld [.int .u64] ⟨q79.b, q79.o + 7⟩ fun (x81 : Int) =>
  deref d fun q82 =>
  st ⟨q82.b, q82.o + 7⟩ [.int .u64 (IntKind.u64.wrap (x81 + (IntKind.u64.wrap x80)))] <|
  ld K_iuiub ⟨n70, 0⟩ fun (x83 : T_iuiub) =>
  st ⟨n1, 0⟩ (Ks.mk K_iuiub x83) <|
  ld K_iuiub ⟨n1, 0⟩ fun (x84 : T_iuiub) =>
  R (x84, (0:Int))) <|
  new [.int .u64 (0:Int), .int .u64 (0:Int), .int .u64 (0:Int), .int .u64 (0:Int), .bool false] fun n85 =>
  chk ⟨q5.b, q5.o + 5⟩ (Ks.mk [.ptr] x6) <|
  call Tryz.prog N_sampler_Sampler_Sent [.lf (.ptr x6), .lf (.int .u64 o), .lf (.int .u64 r7)] [.agg K_u4b] fun (r86 : T_u4b) =>
  st ⟨n85, 0⟩ (Ks.mk K_u4b r86) <|
  drw <|
  ld K_u4b ⟨n85, 0⟩ fun (x87 : T_u4b) =>
  deref d fun q88 =>
  ld [.ptr] ⟨q88.b, q88.o + 4⟩ fun (x89 : Option Pt) =>
  both (
  call Tryz.prog N_board_Board_Again [.lf (.ptr x89), .agg (Ks.mk K_u4b x87)] [.agg [.int .u64, .int .u64], .lf .bool] fun (r90 : (Int × Int) × Bool) =>
  new [.int .u64 (0:Int), .int .u64 (0:Int)] fun n91 =>
  chk ⟨q88.b, q88.o + 4⟩ (Ks.mk [.ptr] x89) <|
  chk ⟨n85, 0⟩ (Ks.mk K_u4b x87) <|
  st ⟨n91, 0⟩ (Ks.mk [.int .u64, .int .u64] r90.1) <|
  join [] (fun J92 =>
  ite' (!r90.2) (
  drw <|
  deref d fun q94 =>
  ld [.ptr] ⟨q94.b, q94.o + 3⟩ fun (x95 : Option Pt) =>
  call Tryz.prog N_sock_Sock_Tso [.lf (.ptr d)] [.lf (.int .i64)] fun (r96 : Int) =>
  chk ⟨q94.b, q94.o + 3⟩ (Ks.mk [.ptr] x95) <|
  call Tryz.prog N_buffer_Buffer_Take [.lf (.ptr x95), .lf (.int .i64 r96)] [.agg [.int .u64, .int .u64], .lf .bool] fun (r97 : (Int × Int) × Bool) =>
  st ⟨n91, 0⟩ (Ks.mk [.int .u64, .int .u64] r97.1) <|
  drw <|
  ld K_u4b ⟨n85, 0⟩ fun (x98 : T_u4b) =>
  deref d fun q99 =>
  ld [.int .u64] ⟨n91, 0⟩ fun (x100 : Int) =>
  ld [.int .u64] ⟨n91, 1⟩ fun (x101 : Int) =>
  ld [.ptr] ⟨q99.b, q99.o + 4⟩ fun (x102 : Option Pt) =>
  call Tryz.prog N_board_Board_Sent [.lf (.ptr x102), .lf (.int .u64 x100), .lf (.int .u64 x101), .agg (Ks.mk K_u4b x98)] [.lf (.int .i64)] fun (r103 : Int) =>
  J92 ()) <|
  J92 ()) fun (y93 : Unit) =>
  drw <|
  deref d fun q104 =>
  ld [.int .u64] ⟨n91, 0⟩ fun (x105 : Int) =>
  ld [.int .u64] ⟨n91, 1⟩ fun (x106 : Int) =>
  ld [.int .u64] ⟨n91, 0⟩ fun (x107 : Int) =>
  deref d fun q108 =>
  ld [.int .i64] q104 fun (x109 : Int) =>
  ld [.int .u64] ⟨q108.b, q108.o + 8⟩ fun (x110 : Int) =>
  new [.int .i64 (0:Int), .int .u64 (0:Int), .int .i64 (0:Int), .int .u64 (0:Int), .bool false] fun n111 =>
  chk ⟨q108.b, q108.o + 8⟩ (Ks.mk [.int .u64] x110) <|
  chk q104 (Ks.mk [.int .i64] x109) <|
  chk ⟨n91, 0⟩ (Ks.mk [.int .u64] x107) <|
  chk ⟨n91, 1⟩ (Ks.mk [.int .u64] x106) <|
  chk ⟨n91, 0⟩ (Ks.mk [.int .u64] x105) <|
  st ⟨n111, 0⟩ [.int .i64 x109, .int .u64 x105, .int .i64 (IntKind.i64.wrap (IntKind.u64.wrap (x106 - x107))), .int .u64 (if x110 > o then x110 else o), .bool r90.2] <|
  drw <|
  ld [.int .u64] ⟨n111, 3⟩ fun (x112 : Int) =>
  ld [.int .i64] ⟨n111, 2⟩ fun (x113 : Int) =>
  deref d fun q114 =>
  ld [.ptr] ⟨q114.b, q114.o + 6⟩ fun (x115 : Option Pt) =>
  call Tryz.prog N_bbr_Model_State [.lf (.ptr x115)] [.agg K_i2u6b2] fun (r116 : T_i2u6b2) =>
  chk ⟨n111, 2⟩ (Ks.mk [.int .i64] x113) <|
  chk ⟨n111, 3⟩ (Ks.mk [.int .u64] x112) <|
  call Tryz.prog N_delay_Of [.lf (.int .i64 x113), .lf (.int .u64 r116.2.2.1)] [.lf (.int .u64)] fun (r117 : Int) =>
  chk ⟨n111, 3⟩ (Ks.mk [.int .u64] x112) <|
  call Tryz.prog N_sat_Add [.lf (.int .u64 x112), .lf (.int .u64 r117)] [.lf (.int .u64)] fun (r118 : Int) =>
  deref d fun q119 =>
  st ⟨q119.b, q119.o + 8⟩ [.int .u64 r118] <|
  drw <|
  deref d fun q120 =>
  ld [.int .i64] ⟨n111, 2⟩ fun (x121 : Int) =>
  ld [.int .u64] ⟨q120.b, q120.o + 7⟩ fun (x122 : Int) =>
  deref d fun q123 =>
  st ⟨q123.b, q123.o + 7⟩ [.int .u64 (IntKind.u64.wrap (x122 + (IntKind.u64.wrap x121)))] <|
  ld K_iuiub ⟨n111, 0⟩ fun (x124 : T_iuiub) =>
  st ⟨n1, 0⟩ (Ks.mk K_iuiub x124) <|
  ld K_iuiub ⟨n1, 0⟩ fun (x125 : T_iuiub) =>
  R (x125, (0:Int))) <|
  new [.int .u64 (0:Int), .int .u64 (0:Int)] fun n126 =>
  chk ⟨q88.b, q88.o + 4⟩ (Ks.mk [.ptr] x89) <|
  chk ⟨n85, 0⟩ (Ks.mk K_u4b x87) <|
  call Tryz.prog N_board_Board_Again [.lf (.ptr x89), .agg (Ks.mk K_u4b x87)] [.agg [.int .u64, .int .u64], .lf .bool] fun (r127 : (Int × Int) × Bool) =>
  st ⟨n126, 0⟩ (Ks.mk [.int .u64, .int .u64] r127.1) <|
  join [] (fun J128 =>
  ite' (!r127.2) (
  drw <|
  deref d fun q130 =>
  ld [.ptr] ⟨q130.b, q130.o + 3⟩ fun (x131 : Option Pt) =>
  call Tryz.prog N_sock_Sock_Tso [.lf (.ptr d)] [.lf (.int .i64)] fun (r132 : Int) =>
  chk ⟨q130.b, q130.o + 3⟩ (Ks.mk [.ptr] x131) <|
  call Tryz.prog N_buffer_Buffer_Take [.lf (.ptr x131), .lf (.int .i64 r132)] [.agg [.int .u64, .int .u64], .lf .bool] fun (r133 : (Int × Int) × Bool) =>
  st ⟨n126, 0⟩ (Ks.mk [.int .u64, .int .u64] r133.1) <|
  drw <|
  ld K_u4b ⟨n85, 0⟩ fun (x134 : T_u4b) =>
  deref d fun q135 =>
  ld [.int .u64] ⟨n126, 0⟩ fun (x136 : Int) =>
  ld [.int .u64] ⟨n126, 1⟩ fun (x137 : Int) =>
  ld [.ptr] ⟨q135.b, q135.o + 4⟩ fun (x138 : Option Pt) =>
  call Tryz.prog N_board_Board_Sent [.lf (.ptr x138), .lf (.int .u64 x136), .lf (.int .u64 x137), .agg (Ks.mk K_u4b x134)] [.lf (.int .i64)] fun (r139 : Int) =>
  J128 ()) <|
  J128 ()) fun (y129 : Unit) =>
  drw <|
  deref d fun q140 =>
  ld [.int .u64] ⟨n126, 0⟩ fun (x141 : Int) =>
  ld [.int .u64] ⟨n126, 1⟩ fun (x142 : Int) =>
  ld [.int .u64] ⟨n126, 0⟩ fun (x143 : Int) =>
  deref d fun q144 =>
  ld [.int .i64] q140 fun (x145 : Int) =>
  ld [.int .u64] ⟨q144.b, q144.o + 8⟩ fun (x146 : Int) =>
  new [.int .i64 (0:Int), .int .u64 (0:Int), .int .i64 (0:Int), .int .u64 (0:Int), .bool false] fun n147 =>
  chk ⟨q144.b, q144.o + 8⟩ (Ks.mk [.int .u64] x146) <|
  chk q140 (Ks.mk [.int .i64] x145) <|
  chk ⟨n126, 0⟩ (Ks.mk [.int .u64] x143) <|
  chk ⟨n126, 1⟩ (Ks.mk [.int .u64] x142) <|
  chk ⟨n126, 0⟩ (Ks.mk [.int .u64] x141) <|
  st ⟨n147, 0⟩ [.int .i64 x145, .int .u64 x141, .int .i64 (IntKind.i64.wrap (IntKind.u64.wrap (x142 - x143))), .int .u64 (if x146 > o then x146 else o), .bool r127.2] <|
  drw <|
  ld [.int .u64] ⟨n147, 3⟩ fun (x148 : Int) =>
  ld [.int .i64] ⟨n147, 2⟩ fun (x149 : Int) =>
  deref d fun q150 =>
  ld [.ptr] ⟨q150.b, q150.o + 6⟩ fun (x151 : Option Pt) =>
  call Tryz.prog N_bbr_Model_State [.lf (.ptr x151)] [.agg K_i2u6b2] fun (r152 : T_i2u6b2) =>
  chk ⟨n147, 2⟩ (Ks.mk [.int .i64] x149) <|
  chk ⟨n147, 3⟩ (Ks.mk [.int .u64] x148) <|
  call Tryz.prog N_delay_Of [.lf (.int .i64 x149), .lf (.int .u64 r152.2.2.1)] [.lf (.int .u64)] fun (r153 : Int) =>
  chk ⟨n147, 3⟩ (Ks.mk [.int .u64] x148) <|
  call Tryz.prog N_sat_Add [.lf (.int .u64 x148), .lf (.int .u64 r153)] [.lf (.int .u64)] fun (r154 : Int) =>
  deref d fun q155 =>
  st ⟨q155.b, q155.o + 8⟩ [.int .u64 r154] <|
  drw <|
  deref d fun q156 =>
  ld [.int .i64] ⟨n147, 2⟩ fun (x157 : Int) =>
  ld [.int .u64] ⟨q156.b, q156.o + 7⟩ fun (x158 : Int) =>
  deref d fun q159 =>
  st ⟨q159.b, q159.o + 7⟩ [.int .u64 (IntKind.u64.wrap (x158 + (IntKind.u64.wrap x157)))] <|
  ld K_iuiub ⟨n147, 0⟩ fun (x160 : T_iuiub) =>
  st ⟨n1, 0⟩ (Ks.mk K_iuiub x160) <|
  ld K_iuiub ⟨n1, 0⟩ fun (x161 : T_iuiub) =>
  R (x161, (0:Int))) <|
  new [.int .u64 (0:Int), .int .u64 (0:Int), .int .u64 (0:Int), .int .u64 (0:Int), .bool false] fun n162 =>
  chk ⟨q5.b, q5.o + 5⟩ (Ks.mk [.ptr] x6) <|
  call Tryz.prog N_sock_Sock_Flight [.lf (.ptr d)] [.lf (.int .u64)] fun (r163 : Int) =>
  chk ⟨q5.b, q5.o + 5⟩ (Ks.mk [.ptr] x6) <|
  call Tryz.prog N_sampler_Sampler_Sent [.lf (.ptr x6), .lf (.int .u64 o), .lf (.int .u64 r163)] [.agg K_u4b] fun (r164 : T_u4b) =>
  st ⟨n162, 0⟩ (Ks.mk K_u4b r164) <|
  drw <|
  ld K_u4b ⟨n162, 0⟩ fun (x165 : T_u4b) =>
  deref d fun q166 =>
  ld [.ptr] ⟨q166.b, q166.o + 4⟩ fun (x167 : Option Pt) =>
  both (
  call Tryz.prog N_board_Board_Again [.lf (.ptr x167), .agg (Ks.mk K_u4b x165)] [.agg [.int .u64, .int .u64], .lf .bool] fun (r168 : (Int × Int) × Bool) =>
  new [.int .u64 (0:Int), .int .u64 (0:Int)] fun n169 =>
  chk ⟨q166.b, q166.o + 4⟩ (Ks.mk [.ptr] x167) <|
  chk ⟨n162, 0⟩ (Ks.mk K_u4b x165) <|
  st ⟨n169, 0⟩ (Ks.mk [.int .u64, .int .u64] r168.1) <|
  join [] (fun J170 =>
  ite' (!r168.2) (
  drw <|
  deref d fun q172 =>
  ld [.ptr] ⟨q172.b, q172.o + 3⟩ fun (x173 : Option Pt) =>
  call Tryz.prog N_sock_Sock_Tso [.lf (.ptr d)] [.lf (.int .i64)] fun (r174 : Int) =>
  chk ⟨q172.b, q172.o + 3⟩ (Ks.mk [.ptr] x173) <|
  call Tryz.prog N_buffer_Buffer_Take [.lf (.ptr x173), .lf (.int .i64 r174)] [.agg [.int .u64, .int .u64], .lf .bool] fun (r175 : (Int × Int) × Bool) =>
  st ⟨n169, 0⟩ (Ks.mk [.int .u64, .int .u64] r175.1) <|
  drw <|
  ld K_u4b ⟨n162, 0⟩ fun (x176 : T_u4b) =>
  deref d fun q177 =>
  ld [.int .u64] ⟨n169, 0⟩ fun (x178 : Int) =>
  ld [.int .u64] ⟨n169, 1⟩ fun (x179 : Int) =>
  ld [.ptr] ⟨q177.b, q177.o + 4⟩ fun (x180 : Option Pt) =>
  call Tryz.prog N_board_Board_Sent [.lf (.ptr x180), .lf (.int .u64 x178), .lf (.int .u64 x179), .agg (Ks.mk K_u4b x176)] [.lf (.int .i64)] fun (r181 : Int) =>
  J170 ()) <|
  J170 ()) fun (y171 : Unit) =>
  drw <|
  deref d fun q182 =>
  ld [.int .u64] ⟨n169, 0⟩ fun (x183 : Int) =>
  ld [.int .u64] ⟨n169, 1⟩ fun (x184 : Int) =>
  ld [.int .u64] ⟨n169, 0⟩ fun (x185 : Int) =>
  deref d fun q186 =>
  ld [.int .i64] q182 fun (x187 : Int) =>
  ld [.int .u64] ⟨q186.b, q186.o + 8⟩ fun (x188 : Int) =>
  new [.int .i64 (0:Int), .int .u64 (0:Int), .int .i64 (0:Int), .int .u64 (0:Int), .bool false] fun n189 =>
  chk ⟨q186.b, q186.o + 8⟩ (Ks.mk [.int .u64] x188) <|
  chk q182 (Ks.mk [.int .i64] x187) <|
  chk ⟨n169, 0⟩ (Ks.mk [.int .u64] x185) <|
  chk ⟨n169, 1⟩ (Ks.mk [.int .u64] x184) <|
  chk ⟨n169, 0⟩ (Ks.mk [.int .u64] x183) <|
  st ⟨n189, 0⟩ [.int .i64 x187, .int .u64 x183, .int .i64 (IntKind.i64.wrap (IntKind.u64.wrap (x184 - x185))), .int .u64 (if x188 > o then x188 else o), .bool r168.2] <|
  drw <|
  ld [.int .u64] ⟨n189, 3⟩ fun (x190 : Int) =>
  ld [.int .i64] ⟨n189, 2⟩ fun (x191 : Int) =>
  deref d fun q192 =>
  ld [.ptr] ⟨q192.b, q192.o + 6⟩ fun (x193 : Option Pt) =>
  call Tryz.prog N_bbr_Model_State [.lf (.ptr x193)] [.agg K_i2u6b2] fun (r194 : T_i2u6b2) =>
  chk ⟨n189, 2⟩ (Ks.mk [.int .i64] x191) <|
  chk ⟨n189, 3⟩ (Ks.mk [.int .u64] x190) <|
  call Tryz.prog N_delay_Of [.lf (.int .i64 x191), .lf (.int .u64 r194.2.2.1)] [.lf (.int .u64)] fun (r195 : Int) =>
  chk ⟨n189, 3⟩ (Ks.mk [.int .u64] x190) <|
  call Tryz.prog N_sat_Add [.lf (.int .u64 x190), .lf (.int .u64 r195)] [.lf (.int .u64)] fun (r196 : Int) =>
  deref d fun q197 =>
  st ⟨q197.b, q197.o + 8⟩ [.int .u64 r196] <|
  drw <|
  deref d fun q198 =>
  ld [.int .i64] ⟨n189, 2⟩ fun (x199 : Int) =>
  ld [.int .u64] ⟨q198.b, q198.o + 7⟩ fun (x200 : Int) =>
  deref d fun q201 =>
  st ⟨q201.b, q201.o + 7⟩ [.int .u64 (IntKind.u64.wrap (x200 + (IntKind.u64.wrap x199)))] <|
  ld K_iuiub ⟨n189, 0⟩ fun (x202 : T_iuiub) =>
  st ⟨n1, 0⟩ (Ks.mk K_iuiub x202) <|
  ld K_iuiub ⟨n1, 0⟩ fun (x203 : T_iuiub) =>
  R (x203, (0:Int))) <|
  new [.int .u64 (0:Int), .int .u64 (0:Int)] fun n204 =>
  chk ⟨q166.b, q166.o + 4⟩ (Ks.mk [.ptr] x167) <|
  chk ⟨n162, 0⟩ (Ks.mk K_u4b x165) <|
  call Tryz.prog N_board_Board_Again [.lf (.ptr x167), .agg (Ks.mk K_u4b x165)] [.agg [.int .u64, .int .u64], .lf .bool] fun (r205 : (Int × Int) × Bool) =>
  st ⟨n204, 0⟩ (Ks.mk [.int .u64, .int .u64] r205.1) <|
  join [] (fun J206 =>
  ite' (!r205.2) (
  drw <|
  deref d fun q208 =>
  ld [.ptr] ⟨q208.b, q208.o + 3⟩ fun (x209 : Option Pt) =>
  call Tryz.prog N_sock_Sock_Tso [.lf (.ptr d)] [.lf (.int .i64)] fun (r210 : Int) =>
  chk ⟨q208.b, q208.o + 3⟩ (Ks.mk [.ptr] x209) <|
  call Tryz.prog N_buffer_Buffer_Take [.lf (.ptr x209), .lf (.int .i64 r210)] [.agg [.int .u64, .int .u64], .lf .bool] fun (r211 : (Int × Int) × Bool) =>
  st ⟨n204, 0⟩ (Ks.mk [.int .u64, .int .u64] r211.1) <|
  drw <|
  ld K_u4b ⟨n162, 0⟩ fun (x212 : T_u4b) =>
  deref d fun q213 =>
  ld [.int .u64] ⟨n204, 0⟩ fun (x214 : Int) =>
  ld [.int .u64] ⟨n204, 1⟩ fun (x215 : Int) =>
  ld [.ptr] ⟨q213.b, q213.o + 4⟩ fun (x216 : Option Pt) =>
  call Tryz.prog N_board_Board_Sent [.lf (.ptr x216), .lf (.int .u64 x214), .lf (.int .u64 x215), .agg (Ks.mk K_u4b x212)] [.lf (.int .i64)] fun (r217 : Int) =>
  J206 ()) <|
  J206 ()) fun (y207 : Unit) =>
  drw <|
  deref d fun q218 =>
  ld [.int .u64] ⟨n204, 0⟩ fun (x219 : Int) =>
  ld [.int .u64] ⟨n204, 1⟩ fun (x220 : Int) =>
  ld [.int .u64] ⟨n204, 0⟩ fun (x221 : Int) =>
  deref d fun q222 =>
  ld [.int .i64] q218 fun (x223 : Int) =>
  ld [.int .u64] ⟨q222.b, q222.o + 8⟩ fun (x224 : Int) =>
  new [.int .i64 (0:Int), .int .u64 (0:Int), .int .i64 (0:Int), .int .u64 (0:Int), .bool false] fun n225 =>
  chk ⟨q222.b, q222.o + 8⟩ (Ks.mk [.int .u64] x224) <|
  chk q218 (Ks.mk [.int .i64] x223) <|
  chk ⟨n204, 0⟩ (Ks.mk [.int .u64] x221) <|
  chk ⟨n204, 1⟩ (Ks.mk [.int .u64] x220) <|
  chk ⟨n204, 0⟩ (Ks.mk [.int .u64] x219) <|
  st ⟨n225, 0⟩ [.int .i64 x223, .int .u64 x219, .int .i64 (IntKind.i64.wrap (IntKind.u64.wrap (x220 - x221))), .int .u64 (if x224 > o then x224 else o), .bool r205.2] <|
  drw <|
  ld [.int .u64] ⟨n225, 3⟩ fun (x226 : Int) =>
  ld [.int .i64] ⟨n225, 2⟩ fun (x227 : Int) =>
  deref d fun q228 =>
  ld [.ptr] ⟨q228.b, q228.o + 6⟩ fun (x229 : Option Pt) =>
  call Tryz.prog N_bbr_Model_State [.lf (.ptr x229)] [.agg K_i2u6b2] fun (r230 : T_i2u6b2) =>
  chk ⟨n225, 2⟩ (Ks.mk [.int .i64] x227) <|
  chk ⟨n225, 3⟩ (Ks.mk [.int .u64] x226) <|
  call Tryz.prog N_delay_Of [.lf (.int .i64 x227), .lf (.int .u64 r230.2.2.1)] [.lf (.int .u64)] fun (r231 : Int) =>
  chk ⟨n225, 3⟩ (Ks.mk [.int .u64] x226) <|
  call Tryz.prog N_sat_Add [.lf (.int .u64 x226), .lf (.int .u64 r231)] [.lf (.int .u64)] fun (r232 : Int) =>
  deref d fun q233 =>
  st ⟨q233.b, q233.o + 8⟩ [.int .u64 r232] <|
  drw <|
  deref d fun q234 =>
  ld [.int .i64] ⟨n225, 2⟩ fun (x235 : Int) =>
  ld [.int .u64] ⟨q234.b, q234.o + 7⟩ fun (x236 : Int) =>
  deref d fun q237 =>
  st ⟨q237.b, q237.o + 7⟩ [.int .u64 (IntKind.u64.wrap (x236 + (IntKind.u64.wrap x235)))] <|
  ld K_iuiub ⟨n225, 0⟩ fun (x238 : T_iuiub) =>
  st ⟨n1, 0⟩ (Ks.mk K_iuiub x238) <|
  ld K_iuiub ⟨n1, 0⟩ fun (x239 : T_iuiub) =>
  R (x239, (0:Int))
theorem sem_sock_Sock_Emit (d : Option Pt) (o : Int) (R : Rs.T [.agg K_iuiub, .lf (.int .i64)] → WP) : Same (semF Tryz.prog Tryz.f12 (.s .o (.s (.s .o (.s (.s .o .o) .o)) (.s (.s .o (.s .o (.s (.s .o .o) .o))) (.s (.d (.f 0 [0] (.f 4 [1] (.f 5 [0] (.f 1 [20] (.f 2 [21] (.f 3 [22] (.wa 6 [25] (.wa 7 [23, 24, 26] (.w 8 [] (.w 9 [7, 27] .fin)) (.w 8 [] (.w 7 [23, 24, 26] (.w 9 [7, 27] .fin)))) (.w 8 [] (.w 6 [25] (.w 7 [23, 24, 26] (.w 9 [7, 27] .fin)))))))))))) (.s (.d (.f 0 [0] (.f 4 [7] (.f 1 [29] (.f 2 [30] (.f 3 [31] (.wa 5 [32, 33] (.f 6 [34] (.f 7 [28] (.f 8 [28] (.w 9 [] (.w 10 [8, 35] (.w 11 [36] .fin)))))) (.w 9 [] (.w 5 [32, 33] (.f 6 [34] (.f 7 [28] (.f 8 [28] (.w 10 [8, 35] (.w 11 [36] .fin)))))))))))))) (.j [] (.s .o (.s (.s (.d (.f 0 [0] (.f 4 [0] (.f 1 [40] (.f 2 [41] (.f 3 [42] (.w 5 [44] (.w 6 [43, 45] (.f 7 [46] (.f 8 [39] (.f 9 [39] (.w 10 [8, 47] .fin)))))))))))) (.d (.f 0 [0] (.f 4 [8] (.f 6 [8] (.f 8 [7] (.f 1 [49] (.f 5 [53] (.f 7 [55] (.f 2 [50] (.f 3 [51] (.w 9 [52, 54, 56, 57] .fin)))))))))))) .o)) (.s (.d (.f 0 [0] (.f 4 [8] (.f 6 [8] (.f 8 [8] (.f 12 [1] (.f 13 [0] (.f 18 [9] (.f 1 [59] (.f 5 [63] (.f 7 [65] (.f 9 [67] (.f 14 [72] (.f 2 [60] (.f 10 [66, 68] (.f 15 [73] (.f 3 [61] (.f 11 [69] (.f 16 [74] (.f 17 [71, 75] (.f 19 [62, 64, 70, 76, 77] (.w 20 [] (.w 21 [10, 78] .fin))))))))))))))))))))))) (.s (.d (.f 0 [0] (.f 1 [10] (.f 3 [10] (.f 5 [0] (.f 2 [80] (.f 4 [82] (.f 6 [84] (.f 7 [85] (.f 8 [86] (.w 9 [87] (.f 10 [88] (.w 11 [83, 89] (.w 12 [81, 90] (.f 13 [79] (.f 14 [92] (.w 15 [91, 93] .fin))))))))))))))))) (.s (.d (.f 0 [0] (.f 4 [10] (.f 1 [94] (.f 5 [98] (.f 2 [95] (.f 6 [99] (.f 3 [96] (.f 7 [97, 100] (.f 8 [94] (.f 9 [102] (.w 10 [101, 103] .fin)))))))))))) (.s .o .o)))))))))) [.lf (.ptr d), .lf (.int .u64 o)] [.agg K_iuiub, .lf (.int .i64)] R) (fun w => W_sock_Sock_Emit d o R w) := ⟨by kernel_rfl⟩
theorem call_sock_Sock_Emit (d : Option Pt) (o : Int) (R : Rs.T [.agg K_iuiub, .lf (.int .i64)] → WP) (w : World) (h : W_sock_Sock_Emit d o R w) :
    CallX Tryz.prog N_sock_Sock_Emit ([.lf (.ptr d), .lf (.int .u64 o)].map V1.enc) w fun v w' => ∃ x, v = (retTV (Rs.mk [.agg K_iuiub, .lf (.int .i64)] x)).enc ∧ R x w' :=
  callX_of_semF Tryz.func12 (by kernel_rfl) (by kernel_rfl) (sem_sock_Sock_Emit d o R) h


/-- (*canter/sock.Sock).Flight -/
def W_sock_Sock_Flight (s : Option Pt) (R : Rs.T [.lf (.int .u64)] → WP) : WP :=
  ite' s.isNone (
  R (0:Int)) <|
  deref s fun q1 =>
  ld [.ptr] ⟨q1.b, q1.o + 4⟩ fun (x2 : Option Pt) =>
  call Tryz.prog N_board_Board_Flight [.lf (.ptr x2)] [.lf (.int .u64)] fun (r3 : Int) =>
  R r3
theorem sem_sock_Sock_Flight (s : Option Pt) (R : Rs.T [.lf (.int .u64)] → WP) : Same (semF Tryz.prog Tryz.f17 (.s .o (.s (.s .o (.s (.s .o .o) .o)) (.s .o .o))) [.lf (.ptr s)] [.lf (.int .u64)] R) (fun w => W_sock_Sock_Flight s R w) := ⟨by kernel_rfl⟩
theorem call_sock_Sock_Flight (s : Option Pt) (R : Rs.T [.lf (.int .u64)] → WP) (w : World) (h : W_sock_Sock_Flight s R w) :
    CallX Tryz.prog N_sock_Sock_Flight ([.lf (.ptr s)].map V1.enc) w fun v w' => ∃ x, v = (retTV (Rs.mk [.lf (.int .u64)] x)).enc ∧ R x w' :=
  callX_of_semF Tryz.func17 (by kernel_rfl) (by kernel_rfl) (sem_sock_Sock_Flight s R) h


/-- (*canter/sock.Sock).Lose -/
def W_sock_Sock_Lose (s : Option Pt) (now : Int) (R : Rs.T [.lf (.int .i64)] → WP) : WP :=
  ite' s.isNone (
  R (2:Int)) <|
  deref s fun q1 =>
  ld [.ptr] ⟨q1.b, q1.o + 4⟩ fun (x2 : Option Pt) =>
  call Tryz.prog N_board_Board_Lose [.lf (.ptr x2)] [.lf (.int .u64)] fun (r3 : Int) =>
  call Tryz.prog N_sock_Sock_learn [.lf (.ptr s), .lf (.int .u64 now), .lf (.int .u64 r3)] [] fun (r4 : Unit) =>
  R (0:Int)
theorem sem_sock_Sock_Lose (s : Option Pt) (now : Int) (R : Rs.T [.lf (.int .i64)] → WP) : Same (semF Tryz.prog Tryz.f23 (.s .o (.s (.s .o (.s (.s .o .o) .o)) (.s .o (.s .o .o)))) [.lf (.ptr s), .lf (.int .u64 now)] [.lf (.int .i64)] R) (fun w => W_sock_Sock_Lose s now R w) := ⟨by kernel_rfl⟩
theorem call_sock_Sock_Lose (s : Option Pt) (now : Int) (R : Rs.T [.lf (.int .i64)] → WP) (w : World) (h : W_sock_Sock_Lose s now R w) :
    CallX Tryz.prog N_sock_Sock_Lose ([.lf (.ptr s), .lf (.int .u64 now)].map V1.enc) w fun v w' => ∃ x, v = (retTV (Rs.mk [.lf (.int .i64)] x)).enc ∧ R x w' :=
  callX_of_semF Tryz.func23 (by kernel_rfl) (by kernel_rfl) (sem_sock_Sock_Lose s now R) h


/-- (*canter/sock.Sock).Model -/
def W_sock_Sock_Model (s : Option Pt) (R : Rs.T [.agg K_i2u6b2] → WP) : WP :=
  new [.int .i64 (0:Int), .int .i64 (0:Int), .int .u64 (0:Int), .int .u64 (0:Int), .int .u64 (0:Int), .int .u64 (0:Int), .int .u64 (0:Int), .int .u64 (0:Int), .bool false, .bool false] fun n1 =>
  ite' s.isNone (
  st ⟨n1, 0⟩ [.int .i64 (0:Int), .int .i64 (0:Int), .int .u64 (0:Int), .int .u64 (0:Int), .int .u64 (0:Int), .int .u64 (0:Int), .int .u64 (0:Int), .int .u64 (0:Int), .bool false, .bool false] <|
  ld K_i2u6b2 ⟨n1, 0⟩ fun (x2 : T_i2u6b2) =>
  R x2) <|
  deref s fun q3 =>
  ld [.ptr] ⟨q3.b, q3.o + 6⟩ fun (x4 : Option Pt) =>
  call Tryz.prog N_bbr_Model_State [.lf (.ptr x4)] [.agg K_i2u6b2] fun (r5 : T_i2u6b2) =>
  st ⟨n1, 0⟩ (Ks.mk K_i2u6b2 r5) <|
  ld K_i2u6b2 ⟨n1, 0⟩ fun (x6 : T_i2u6b2) =>
  R x6
theorem sem_sock_Sock_Model (s : Option Pt) (R : Rs.T [.agg K_i2u6b2] → WP) : Same (semF Tryz.prog Tryz.f15 (.s .o (.s (.s .o (.s (.s .o .o) .o)) (.s .o .o))) [.lf (.ptr s)] [.agg K_i2u6b2] R) (fun w => W_sock_Sock_Model s R w) := ⟨by kernel_rfl⟩
theorem call_sock_Sock_Model (s : Option Pt) (R : Rs.T [.agg K_i2u6b2] → WP) (w : World) (h : W_sock_Sock_Model s R w) :
    CallX Tryz.prog N_sock_Sock_Model ([.lf (.ptr s)].map V1.enc) w fun v w' => ∃ x, v = (retTV (Rs.mk [.agg K_i2u6b2] x)).enc ∧ R x w' :=
  callX_of_semF Tryz.func15 (by kernel_rfl) (by kernel_rfl) (sem_sock_Sock_Model s R) h


/-- (*canter/sock.Sock).Out -/
def W_sock_Sock_Out (s : Option Pt) (R : Rs.T [.lf (.int .u64)] → WP) : WP :=
  ite' s.isNone (
  R (0:Int)) <|
  deref s fun q1 =>
  ld [.int .u64] ⟨q1.b, q1.o + 7⟩ fun (x2 : Int) =>
  R x2
theorem sem_sock_Sock_Out (s : Option Pt) (R : Rs.T [.lf (.int .u64)] → WP) : Same (semF Tryz.prog Tryz.f20 (.s .o (.s (.s .o (.s (.s .o .o) .o)) (.s .o .o))) [.lf (.ptr s)] [.lf (.int .u64)] R) (fun w => W_sock_Sock_Out s R w) := ⟨by kernel_rfl⟩
theorem call_sock_Sock_Out (s : Option Pt) (R : Rs.T [.lf (.int .u64)] → WP) (w : World) (h : W_sock_Sock_Out s R w) :
    CallX Tryz.prog N_sock_Sock_Out ([.lf (.ptr s)].map V1.enc) w fun v w' => ∃ x, v = (retTV (Rs.mk [.lf (.int .u64)] x)).enc ∧ R x w' :=
  callX_of_semF Tryz.func20 (by kernel_rfl) (by kernel_rfl) (sem_sock_Sock_Out s R) h


/-- (*canter/sock.Sock).Tso -/
def W_sock_Sock_Tso (s : Option Pt) (R : Rs.T [.lf (.int .i64)] → WP) : WP :=
  ite' s.isNone (
  R (0:Int)) <|
  drw <|
  deref s fun q1 =>
  deref s fun q2 =>
  ld [.ptr] ⟨q1.b, q1.o + 6⟩ fun (x3 : Option Pt) =>
  ld [.int .i64] ⟨q2.b, q2.o + 1⟩ fun (x4 : Int) =>
  call Tryz.prog N_bbr_Model_State [.lf (.ptr x3)] [.agg K_i2u6b2] fun (r5 : T_i2u6b2) =>
  chk ⟨q2.b, q2.o + 1⟩ (Ks.mk [.int .i64] x4) <|
  call Tryz.prog N_tso_Size [.lf (.int .u64 r5.2.2.1), .lf (.int .i64 x4)] [.lf (.int .i64)] fun (r6 : Int) =>
  R r6
theorem sem_sock_Sock_Tso (s : Option Pt) (R : Rs.T [.lf (.int .i64)] → WP) : Same (semF Tryz.prog Tryz.f31 (.s .o (.s (.s .o (.s (.s .o .o) .o)) (.s (.d (.f 0 [0] (.f 6 [0] (.f 1 [5] (.f 7 [11] (.f 2 [6] (.f 8 [12] (.f 3 [7] (.f 9 [13] (.w 4 [8] (.f 5 [9] (.w 10 [10, 14] (.w 11 [15] .fin))))))))))))) .o))) [.lf (.ptr s)] [.lf (.int .i64)] R) (fun w => W_sock_Sock_Tso s R w) := ⟨by kernel_rfl⟩
theorem call_sock_Sock_Tso (s : Option Pt) (R : Rs.T [.lf (.int .i64)] → WP) (w : World) (h : W_sock_Sock_Tso s R w) :
    CallX Tryz.prog N_sock_Sock_Tso ([.lf (.ptr s)].map V1.enc) w fun v w' => ∃ x, v = (retTV (Rs.mk [.lf (.int .i64)] x)).enc ∧ R x w' :=
  callX_of_semF Tryz.func31 (by kernel_rfl) (by kernel_rfl) (sem_sock_Sock_Tso s R) h


/-- (*canter/sock.Sock).Write -/
def W_sock_Sock_Write (s : Option Pt) (n : Int) (R : Rs.T [.lf (.int .i64)] → WP) : WP :=
  ite' s.isNone (
  R (2:Int)) <|
  deref s fun q1 =>
  ld [.ptr] ⟨q1.b, q1.o + 3⟩ fun (x2 : Option Pt) =>
  call Tryz.prog N_buffer_Buffer_Write [.lf (.ptr x2), .lf (.int .i64 n)] [.lf (.int .i64)] fun (r3 : Int) =>
  R r3
theorem sem_sock_Sock_Write (s : Option Pt) (n : Int) (R : Rs.T [.lf (.int .i64)] → WP) : Same (semF Tryz.prog Tryz.f11 (.s .o (.s (.s .o (.s (.s .o .o) .o)) (.s .o .o))) [.lf (.ptr s), .lf (.int .i64 n)] [.lf (.int .i64)] R) (fun w => W_sock_Sock_Write s n R w) := ⟨by kernel_rfl⟩
theorem call_sock_Sock_Write (s : Option Pt) (n : Int) (R : Rs.T [.lf (.int .i64)] → WP) (w : World) (h : W_sock_Sock_Write s n R w) :
    CallX Tryz.prog N_sock_Sock_Write ([.lf (.ptr s), .lf (.int .i64 n)].map V1.enc) w fun v w' => ∃ x, v = (retTV (Rs.mk [.lf (.int .i64)] x)).enc ∧ R x w' :=
  callX_of_semF Tryz.func11 (by kernel_rfl) (by kernel_rfl) (sem_sock_Sock_Write s n R) h


/-- (*canter/sock.Sock).learn -/
def W_sock_Sock_learn (s : Option Pt) (now : Int) (lost : Int) (R : Rs.T [] → WP) : WP :=
  drw <|
  deref s fun q1 =>
  deref s fun q2 =>
  ld [.ptr] ⟨q1.b, q1.o + 6⟩ fun (x3 : Option Pt) =>
  ld [.ptr] ⟨q2.b, q2.o + 5⟩ fun (x4 : Option Pt) =>
  call Tryz.prog N_sock_Sock_Flight [.lf (.ptr s)] [.lf (.int .u64)] fun (r5 : Int) =>
  chk ⟨q2.b, q2.o + 5⟩ (Ks.mk [.ptr] x4) <|
  chk ⟨q1.b, q1.o + 6⟩ (Ks.mk [.ptr] x3) <|
  call Tryz.prog N_sampler_Sampler_Take [.lf (.ptr x4), .lf (.int .u64 now), .lf (.int .u64 lost), .lf (.int .u64 r5)] [.agg K_u8b] fun (r6 : T_u8b) =>
  chk ⟨q1.b, q1.o + 6⟩ (Ks.mk [.ptr] x3) <|
  call Tryz.prog N_sock_Sock_Tso [.lf (.ptr s)] [.lf (.int .i64)] fun (r7 : Int) =>
  chk ⟨q1.b, q1.o + 6⟩ (Ks.mk [.ptr] x3) <|
  call Tryz.prog N_bbr_Model_Update [.lf (.ptr x3), .agg (Ks.mk K_u8b r6), .lf (.int .u64 (IntKind.u64.wrap r7))] [.agg K_i2u6b2] fun (r8 : T_i2u6b2) =>
  R ()
theorem sem_sock_Sock_learn (s : Option Pt) (now : Int) (lost : Int) (R : Rs.T [] → WP) : Same (semF Tryz.prog Tryz.f50 (.d (.f 0 [0] (.f 4 [0] (.f 8 [1] (.f 9 [2] (.f 10 [0] (.f 13 [0] (.f 1 [6] (.f 5 [10] (.f 2 [7] (.f 6 [11] (.f 3 [8] (.f 7 [12] (.w 11 [16] (.w 12 [13, 14, 15, 17] (.w 14 [19] (.f 15 [20] (.w 16 [9, 18, 21] .fin)))))))))))))))))) [.lf (.ptr s), .lf (.int .u64 now), .lf (.int .u64 lost)] [] R) (fun w => W_sock_Sock_learn s now lost R w) := ⟨by kernel_rfl⟩
theorem call_sock_Sock_learn (s : Option Pt) (now : Int) (lost : Int) (R : Rs.T [] → WP) (w : World) (h : W_sock_Sock_learn s now lost R w) :
    CallX Tryz.prog N_sock_Sock_learn ([.lf (.ptr s), .lf (.int .u64 now), .lf (.int .u64 lost)].map V1.enc) w fun v w' => ∃ x, v = (retTV (Rs.mk [] x)).enc ∧ R x w' :=
  callX_of_semF Tryz.func50 (by kernel_rfl) (by kernel_rfl) (sem_sock_Sock_learn s now lost R) h


/-- (*canter/sock.Sock).may -/
def W_sock_Sock_may (d : Option Pt) (R : Rs.T [.lf (.int .i64)] → WP) : WP :=
  deref d fun q1 =>
  ld [.ptr] ⟨q1.b, q1.o + 4⟩ fun (x2 : Option Pt) =>
  call Tryz.prog N_board_Board_Lost [.lf (.ptr x2)] [.agg [.int .u64, .int .u64], .lf .bool] fun (r3 : (Int × Int) × Bool) =>
  new [.int .u64 (0:Int), .int .u64 (0:Int)] fun n4 =>
  st ⟨n4, 0⟩ (Ks.mk [.int .u64, .int .u64] r3.1) <|
  deref d fun q5 =>
  ld [.ptr] ⟨q5.b, q5.o + 6⟩ fun (x6 : Option Pt) =>
  call Tryz.prog N_bbr_Model_State [.lf (.ptr x6)] [.agg K_i2u6b2] fun (r7 : T_i2u6b2) =>
  new [.int .i64 (0:Int), .int .i64 (0:Int), .int .u64 (0:Int), .int .u64 (0:Int), .int .u64 (0:Int), .int .u64 (0:Int), .int .u64 (0:Int), .int .u64 (0:Int), .bool false, .bool false] fun n8 =>
  st ⟨n8, 0⟩ (Ks.mk K_i2u6b2 r7) <|
  drw <|
  ld [.int .u64] ⟨n8, 3⟩ fun (x9 : Int) =>
  call Tryz.prog N_sock_Sock_Flight [.lf (.ptr d)] [.lf (.int .u64)] fun (r10 : Int) =>
  chk ⟨n8, 3⟩ (Ks.mk [.int .u64] x9) <|
  join [.bool] (fun J11 =>
  ite' (!r3.2) (
  deref d fun q13 =>
  ld [.ptr] ⟨q13.b, q13.o + 3⟩ fun (x14 : Option Pt) =>
  call Tryz.prog N_buffer_Buffer_Unsent [.lf (.ptr x14)] [.lf (.int .u64)] fun (r15 : Int) =>
  J11 (r15 == (0:Int))) <|
  J11 false) fun (y12 : Bool) =>
  ite' y12 (
  ite' (decide (r10 < x9)) (
  drw <|
  deref d fun q16 =>
  ld [.ptr] ⟨q16.b, q16.o + 5⟩ fun (x17 : Option Pt) =>
  call Tryz.prog N_sock_Sock_Flight [.lf (.ptr d)] [.lf (.int .u64)] fun (r18 : Int) =>
  chk ⟨q16.b, q16.o + 5⟩ (Ks.mk [.ptr] x17) <|
  call Tryz.prog N_sampler_Sampler_Limit [.lf (.ptr x17), .lf (.int .u64 r18)] [] fun (r19 : Unit) =>
  R (7:Int)) <|
  R (7:Int)) <|
  join [.bool] (fun J20 =>
  drw <|
  ite' (!(decide (r10 < x9))) (
  J20 true) <|
  deref d fun q22 =>
  ld [.int .u64] ⟨n8, 2⟩ fun (x23 : Int) =>
  deref d fun q24 =>
  ld [.int .u64] ⟨q22.b, q22.o + 7⟩ fun (x25 : Int) =>
  ld [.int .i64] ⟨q24.b, q24.o + 2⟩ fun (x26 : Int) =>
  call Tryz.prog N_sock_Sock_Tso [.lf (.ptr d)] [.lf (.int .i64)] fun (r27 : Int) =>
  chk ⟨q24.b, q24.o + 2⟩ (Ks.mk [.int .i64] x26) <|
  chk ⟨q22.b, q22.o + 7⟩ (Ks.mk [.int .u64] x25) <|
  chk ⟨n8, 2⟩ (Ks.mk [.int .u64] x23) <|
  call Tryz.prog N_tsq_Limit [.lf (.int .u64 x23), .lf (.int .i64 r27), .lf (.int .i64 x26)] [.lf (.int .u64)] fun (r28 : Int) =>
  chk ⟨q22.b, q22.o + 7⟩ (Ks.mk [.int .u64] x25) <|
  call Tryz.prog N_tsq_May [.lf (.int .u64 x25), .lf (.int .u64 r28)] [.lf .bool] fun (r29 : Bool) =>
  J20 (!r29)) fun (y21 : Bool) =>
  ite' y21 (
  R (5:Int)) <|
  ite' (!r3.2) (
  deref d fun q30 =>
  ld [.ptr] ⟨q30.b, q30.o + 4⟩ fun (x31 : Option Pt) =>
  call Tryz.prog N_board_Board_Len [.lf (.ptr x31)] [.lf (.int .i64)] fun (r32 : Int) =>
  ite' (decide (r32 ≥ (4096:Int))) (
  R (5:Int)) <|
  R (0:Int)) <|
  R (0:Int)
theorem sem_sock_Sock_may (d : Option Pt) (R : Rs.T [.lf (.int .i64)] → WP) : Same (semF Tryz.prog Tryz.f39 (.s .o (.s .o (.s .o (.s (.d (.f 0 [0] (.f 2 [5] (.f 3 [22] (.w 1 [20] (.f 4 [21, 23] (.w 5 [24] .fin))))))) (.s (.b (.j [(25, .lf .bool)] .o (.s (.s (.s .o (.s (.d (.f 0 [0] (.f 4 [0] (.f 1 [37] (.f 2 [38] (.f 3 [39] (.w 5 [41] (.w 6 [40, 42] .fin)))))))) .o)) (.s .o .o)) (.j [(44, .lf .bool)] (.d (.f 0 [6] (.f 1 [45] (.f 2 [46] (.f 3 [0, 47] (.f 7 [5, 47] (.f 9 [0, 47] (.f 11 [0, 47] (.f 4 [47, 48] (.f 8 [47, 52] (.f 12 [47, 56] (.f 5 [47, 49] (.f 13 [47, 57] (.f 6 [47, 50] (.f 14 [47, 58] (.w 10 [47, 54] (.w 15 [47, 53, 55, 59] (.w 16 [47, 51, 60] (.f 17 [47, 61] (.f 18 [47, 62] (.w 19 [63] .fin))))))))))))))))))))) (.s (.s .o .o) (.s .o (.s (.s .o .o) .o))))))) (.s .o .o)))))) [.lf (.ptr d)] [.lf (.int .i64)] R) (fun w => W_sock_Sock_may d R w) := ⟨by kernel_rfl⟩
theorem call_sock_Sock_may (d : Option Pt) (R : Rs.T [.lf (.int .i64)] → WP) (w : World) (h : W_sock_Sock_may d R w) :
    CallX Tryz.prog N_sock_Sock_may ([.lf (.ptr d)].map V1.enc) w fun v w' => ∃ x, v = (retTV (Rs.mk [.lf (.int .i64)] x)).enc ∧ R x w' :=
  callX_of_semF Tryz.func39 (by kernel_rfl) (by kernel_rfl) (sem_sock_Sock_may d R) h


/-- canter/target.Bdp -/
def W_target_Bdp (bw : Int) (rtt : Int) (gain : Int) (R : Rs.T [.lf (.int .u64)] → WP) : WP :=
  new [.int .u64 rtt, .int .u64 (1000000000:Int), .int .u64 gain, .int .u64 (256:Int)] fun n1 =>
  call Tryz.prog N_target_scaled [.lf (.int .u64 bw), .lf (.sl ⟨some ⟨n1, 0⟩, 2, 2⟩)] [.lf (.int .u64)] fun (r2 : Int) =>
  R r2
theorem sem_target_Bdp (bw : Int) (rtt : Int) (gain : Int) (R : Rs.T [.lf (.int .u64)] → WP) : Same (semF Tryz.prog Tryz.f163 (.s .o (.s .o .o)) [.lf (.int .u64 bw), .lf (.int .u64 rtt), .lf (.int .u64 gain)] [.lf (.int .u64)] R) (fun w => W_target_Bdp bw rtt gain R w) := ⟨by kernel_rfl⟩
theorem call_target_Bdp (bw : Int) (rtt : Int) (gain : Int) (R : Rs.T [.lf (.int .u64)] → WP) (w : World) (h : W_target_Bdp bw rtt gain R w) :
    CallX Tryz.prog N_target_Bdp ([.lf (.int .u64 bw), .lf (.int .u64 rtt), .lf (.int .u64 gain)].map V1.enc) w fun v w' => ∃ x, v = (retTV (Rs.mk [.lf (.int .u64)] x)).enc ∧ R x w' :=
  callX_of_semF Tryz.func163 (by kernel_rfl) (by kernel_rfl) (sem_target_Bdp bw rtt gain R) h


/-- canter/target.Rate -/
def W_target_Rate (bw : Int) (gain : Int) (R : Rs.T [.lf (.int .u64)] → WP) : WP :=
  new [.int .u64 gain, .int .u64 (256:Int)] fun n1 =>
  call Tryz.prog N_target_scaled [.lf (.int .u64 bw), .lf (.sl ⟨some ⟨n1, 0⟩, 1, 1⟩)] [.lf (.int .u64)] fun (r2 : Int) =>
  R r2
theorem sem_target_Rate (bw : Int) (gain : Int) (R : Rs.T [.lf (.int .u64)] → WP) : Same (semF Tryz.prog Tryz.f80 (.s .o (.s .o .o)) [.lf (.int .u64 bw), .lf (.int .u64 gain)] [.lf (.int .u64)] R) (fun w => W_target_Rate bw gain R w) := ⟨by kernel_rfl⟩
theorem call_target_Rate (bw : Int) (gain : Int) (R : Rs.T [.lf (.int .u64)] → WP) (w : World) (h : W_target_Rate bw gain R w) :
    CallX Tryz.prog N_target_Rate ([.lf (.int .u64 bw), .lf (.int .u64 gain)].map V1.enc) w fun v w' => ∃ x, v = (retTV (Rs.mk [.lf (.int .u64)] x)).enc ∧ R x w' :=
  callX_of_semF Tryz.func80 (by kernel_rfl) (by kernel_rfl) (sem_target_Rate bw gain R) h


/-- canter/target.Window -/
def W_target_Window (bw : Int) (rtt : Int) (gain : Int) (tso : Int) (mss : Int) (R : Rs.T [.lf (.int .u64)] → WP) : WP :=
  ite' (rtt == (0:Int)) (
  call Tryz.prog N_sat_Mul [.lf (.int .u64 (10:Int)), .lf (.int .u64 mss)] [.lf (.int .u64)] fun (r1 : Int) =>
  R r1) <|
  call Tryz.prog N_target_Bdp [.lf (.int .u64 bw), .lf (.int .u64 rtt), .lf (.int .u64 gain)] [.lf (.int .u64)] fun (r2 : Int) =>
  call Tryz.prog N_sat_Mul [.lf (.int .u64 (3:Int)), .lf (.int .u64 tso)] [.lf (.int .u64)] fun (r3 : Int) =>
  call Tryz.prog N_sat_Add [.lf (.int .u64 r2), .lf (.int .u64 r3)] [.lf (.int .u64)] fun (r4 : Int) =>
  call Tryz.prog N_sat_Mul [.lf (.int .u64 (4:Int)), .lf (.int .u64 mss)] [.lf (.int .u64)] fun (r5 : Int) =>
  R (if r5 > r4 then r5 else r4)
theorem sem_target_Window (bw : Int) (rtt : Int) (gain : Int) (tso : Int) (mss : Int) (R : Rs.T [.lf (.int .u64)] → WP) : Same (semF Tryz.prog Tryz.f168 (.s .o (.s (.s .o (.s (.s .o .o) .o)) (.s .o .o))) [.lf (.int .u64 bw), .lf (.int .u64 rtt), .lf (.int .u64 gain), .lf (.int .u64 tso), .lf (.int .u64 mss)] [.lf (.int .u64)] R) (fun w => W_target_Window bw rtt gain tso mss R w) := ⟨by kernel_rfl⟩
theorem call_target_Window (bw : Int) (rtt : Int) (gain : Int) (tso : Int) (mss : Int) (R : Rs.T [.lf (.int .u64)] → WP) (w : World) (h : W_target_Window bw rtt gain tso mss R w) :
    CallX Tryz.prog N_target_Window ([.lf (.int .u64 bw), .lf (.int .u64 rtt), .lf (.int .u64 gain), .lf (.int .u64 tso), .lf (.int .u64 mss)].map V1.enc) w fun v w' => ∃ x, v = (retTV (Rs.mk [.lf (.int .u64)] x)).enc ∧ R x w' :=
  callX_of_semF Tryz.func168 (by kernel_rfl) (by kernel_rfl) (sem_target_Window bw rtt gain tso mss R) h


/-- canter/target.scaled -/
def W_target_scaled (v : Int) (l : Sl) (R : Rs.T [.lf (.int .u64)] → WP) : WP :=
  loop [.int .u64, .int .i64] (v, (0:Int)) fun J1 (y2 : Int × Int) =>
  ite' (decide (y2.2 < ((l.len : Nat) : Int))) (
  idx l y2.2 2 fun q3 =>
  ld [.int .u64, .int .u64] q3 fun (x4 : Int × Int) =>
  new [.int .u64 (0:Int), .int .u64 (0:Int)] fun n5 =>
  st ⟨n5, 0⟩ (Ks.mk [.int .u64, .int .u64] x4) <|
  ite' (y2.1 == (0:Int)) (
  R y2.1) <|
  req (0 ≤ (0:Int) ∧ (0:Int) < 2) <|
  ld [.int .u64] ⟨n5, 0 + (0:Int).toNat * 1⟩ fun (x6 : Int) =>
  req (0 ≤ (1:Int) ∧ (1:Int) < 2) <|
  ld [.int .u64] ⟨n5, 0 + (1:Int).toNat * 1⟩ fun (x7 : Int) =>
  call Tryz.prog N_wide_MulDiv [.lf (.int .u64 y2.1), .lf (.int .u64 x6), .lf (.int .u64 x7)] [.lf (.int .u64)] fun (r8 : Int) =>
  J1 (r8, (IntKind.i64.wrap (y2.2 + (1:Int))))) <|
  R y2.1
theorem sem_target_scaled (v : Int) (l : Sl) (R : Rs.T [.lf (.int .u64)] → WP) : Same (semF Tryz.prog Tryz.f119 (.s .o (.s .o (.s (.s .o (.b (.l [(0, .lf (.int .u64)), (9, .lf (.int .i64))] (.s .o (.s (.s .o .o) (.s (.b (.s .o (.s (.s .o (.s .o .o)) .o))) .o)))))) (.s .o .o)))) [.lf (.int .u64 v), .lf (.sl l)] [.lf (.int .u64)] R) (fun w => W_target_scaled v l R w) := ⟨by kernel_rfl⟩
theorem call_target_scaled (v : Int) (l : Sl) (R : Rs.T [.lf (.int .u64)] → WP) (w : World) (h : W_target_scaled v l R w) :
    CallX Tryz.prog N_target_scaled ([.lf (.int .u64 v), .lf (.sl l)].map V1.enc) w fun v w' => ∃ x, v = (retTV (Rs.mk [.lf (.int .u64)] x)).enc ∧ R x w' :=
  callX_of_semF Tryz.func119 (by kernel_rfl) (by kernel_rfl) (sem_target_scaled v l R) h


/-- canter/tso.Size -/
def W_tso_Size (rate : Int) (mss : Int) (R : Rs.T [.lf (.int .i64)] → WP) : WP :=
  req ((IntKind.u64.wrap (if (9000:Int) < (if (100:Int) > mss then (100:Int) else mss) then (9000:Int) else (if (100:Int) > mss then (100:Int) else mss))) ≠ 0) <|
  loop [.int .u64] (IntKind.u64.wrap ((IntKind.u64.wrap (rate.tdiv (1024:Int))).tdiv (IntKind.u64.wrap (if (9000:Int) < (if (100:Int) > mss then (100:Int) else mss) then (9000:Int) else (if (100:Int) > mss then (100:Int) else mss))))) fun J1 (y2 : Int) =>
  ite' (decide (y2 < (2:Int))) (
  J1 (2:Int)) <|
  req ((IntKind.u64.wrap (if (9000:Int) < (if (100:Int) > mss then (100:Int) else mss) then (9000:Int) else (if (100:Int) > mss then (100:Int) else mss))) ≠ 0) <|
  ite' (decide (y2 > (IntKind.u64.wrap ((65536:Int).tdiv (IntKind.u64.wrap (if (9000:Int) < (if (100:Int) > mss then (100:Int) else mss) then (9000:Int) else (if (100:Int) > mss then (100:Int) else mss))))))) (
  req ((IntKind.u64.wrap (if (9000:Int) < (if (100:Int) > mss then (100:Int) else mss) then (9000:Int) else (if (100:Int) > mss then (100:Int) else mss))) ≠ 0) <|
  J1 (IntKind.u64.wrap ((65536:Int).tdiv (IntKind.u64.wrap (if (9000:Int) < (if (100:Int) > mss then (100:Int) else mss) then (9000:Int) else (if (100:Int) > mss then (100:Int) else mss)))))) <|
  R (IntKind.i64.wrap (IntKind.u64.wrap (y2 * (IntKind.u64.wrap (if (9000:Int) < (if (100:Int) > mss then (100:Int) else mss) then (9000:Int) else (if (100:Int) > mss then (100:Int) else mss))))))
theorem sem_tso_Size (rate : Int) (mss : Int) (R : Rs.T [.lf (.int .i64)] → WP) : Same (semF Tryz.prog Tryz.f71 (.s .o (.s .o (.s .o (.s .o (.s (.b (.l [(6, .lf (.int .u64))] (.b (.b (.s .o (.s .o (.s .o (.s .o .o)))))))) (.s .o .o)))))) [.lf (.int .u64 rate), .lf (.int .i64 mss)] [.lf (.int .i64)] R) (fun w => W_tso_Size rate mss R w) := ⟨by kernel_rfl⟩
theorem call_tso_Size (rate : Int) (mss : Int) (R : Rs.T [.lf (.int .i64)] → WP) (w : World) (h : W_tso_Size rate mss R w) :
    CallX Tryz.prog N_tso_Size ([.lf (.int .u64 rate), .lf (.int .i64 mss)].map V1.enc) w fun v w' => ∃ x, v = (retTV (Rs.mk [.lf (.int .i64)] x)).enc ∧ R x w' :=
  callX_of_semF Tryz.func71 (by kernel_rfl) (by kernel_rfl) (sem_tso_Size rate mss R) h


/-- canter/tsq.Limit -/
def W_tsq_Limit (rate : Int) (tso : Int) (most : Int) (R : Rs.T [.lf (.int .u64)] → WP) : WP :=
  loop [.int .u64, .int .i64] ((0:Int), (0:Int)) fun J1 (y2 : Int × Int) =>
  ite' (decide (y2.2 < (2:Int))) (
  ixa [.int .u64] [.int .u64 (IntKind.u64.wrap ((2:Int) * (IntKind.u64.wrap (if (0:Int) > tso then (0:Int) else tso)))), .int .u64 (if (IntKind.u64.wrap (if (0:Int) > most then (0:Int) else most)) < (IntKind.u64.wrap (rate.tdiv (1024:Int))) then (IntKind.u64.wrap (if (0:Int) > most then (0:Int) else most)) else (IntKind.u64.wrap (rate.tdiv (1024:Int))))] y2.2 2 1 fun (x3 : Int) =>
  ite' (decide (x3 ≤ y2.1)) (
  J1 (y2.1, (IntKind.i64.wrap (y2.2 + (1:Int))))) <|
  J1 (x3, (IntKind.i64.wrap (y2.2 + (1:Int))))) <|
  R y2.1
theorem sem_tsq_Limit (rate : Int) (tso : Int) (most : Int) (R : Rs.T [.lf (.int .u64)] → WP) : Same (semF Tryz.prog Tryz.f85 (.s .o (.s .o (.s .o (.s (.s .o (.b (.l [(7, .lf (.int .u64)), (21, .lf (.int .i64))] (.s .o (.s (.s .o .o) (.s (.b (.s .o (.s (.s .o (.s .o .o)) .o))) .o)))))) (.s .o .o))))) [.lf (.int .u64 rate), .lf (.int .i64 tso), .lf (.int .i64 most)] [.lf (.int .u64)] R) (fun w => W_tsq_Limit rate tso most R w) := ⟨by kernel_rfl⟩
theorem call_tsq_Limit (rate : Int) (tso : Int) (most : Int) (R : Rs.T [.lf (.int .u64)] → WP) (w : World) (h : W_tsq_Limit rate tso most R w) :
    CallX Tryz.prog N_tsq_Limit ([.lf (.int .u64 rate), .lf (.int .i64 tso), .lf (.int .i64 most)].map V1.enc) w fun v w' => ∃ x, v = (retTV (Rs.mk [.lf (.int .u64)] x)).enc ∧ R x w' :=
  callX_of_semF Tryz.func85 (by kernel_rfl) (by kernel_rfl) (sem_tsq_Limit rate tso most R) h


/-- canter/tsq.May -/
def W_tsq_May (out : Int) (limit : Int) (R : Rs.T [.lf .bool] → WP) : WP :=
  R (decide (out < limit))
theorem sem_tsq_May (out : Int) (limit : Int) (R : Rs.T [.lf .bool] → WP) : Same (semF Tryz.prog Tryz.f84 (.s .o (.s .o .o)) [.lf (.int .u64 out), .lf (.int .u64 limit)] [.lf .bool] R) (fun w => W_tsq_May out limit R w) := ⟨by kernel_rfl⟩
theorem call_tsq_May (out : Int) (limit : Int) (R : Rs.T [.lf .bool] → WP) (w : World) (h : W_tsq_May out limit R w) :
    CallX Tryz.prog N_tsq_May ([.lf (.int .u64 out), .lf (.int .u64 limit)].map V1.enc) w fun v w' => ∃ x, v = (retTV (Rs.mk [.lf .bool] x)).enc ∧ R x w' :=
  callX_of_semF Tryz.func84 (by kernel_rfl) (by kernel_rfl) (sem_tsq_May out limit R) h


/-- canter/wide.Div -/
def W_wide_Div (hi : Int) (lo : Int) (c : Int) (R : Rs.T [.lf (.int .u64), .lf (.int .i64)] → WP) : WP :=
  ite' (c == (0:Int)) (
  R ((0:Int), (1:Int))) <|
  ite' (decide (hi ≥ c)) (
  R ((0:Int), (3:Int))) <|
  loop K_u3i (hi, lo, (0:Int), (0:Int)) fun J1 (y2 : T_u3i) =>
  ite' (y2.2.2.2 == (64:Int)) (
  R (y2.2.2.1, (0:Int))) <|
  req (0 ≤ (63:Int)) <|
  req (0 ≤ (1:Int)) <|
  req (0 ≤ (63:Int)) <|
  req (0 ≤ (1:Int)) <|
  req (0 ≤ (1:Int)) <|
  ite' (((y2.1.fdiv (2 ^ min (63:Int).toNat IntKind.u64.bits)) == (0:Int)) && (decide ((IntKind.u64.wrap (BitVec.ofInt IntKind.u64.bits (IntKind.u64.wrap (y2.1 * 2 ^ min (1:Int).toNat IntKind.u64.bits)) ||| BitVec.ofInt IntKind.u64.bits (y2.2.1.fdiv (2 ^ min (63:Int).toNat IntKind.u64.bits))).toNat) < c))) (
  J1 ((IntKind.u64.wrap (BitVec.ofInt IntKind.u64.bits (IntKind.u64.wrap (y2.1 * 2 ^ min (1:Int).toNat IntKind.u64.bits)) ||| BitVec.ofInt IntKind.u64.bits (y2.2.1.fdiv (2 ^ min (63:Int).toNat IntKind.u64.bits))).toNat), (IntKind.u64.wrap (y2.2.1 * 2 ^ min (1:Int).toNat IntKind.u64.bits)), (IntKind.u64.wrap (y2.2.2.1 * 2 ^ min (1:Int).toNat IntKind.u64.bits)), (IntKind.i64.wrap (y2.2.2.2 + (1:Int))))) <|
  J1 ((IntKind.u64.wrap ((IntKind.u64.wrap (BitVec.ofInt IntKind.u64.bits (IntKind.u64.wrap (y2.1 * 2 ^ min (1:Int).toNat IntKind.u64.bits)) ||| BitVec.ofInt IntKind.u64.bits (y2.2.1.fdiv (2 ^ min (63:Int).toNat IntKind.u64.bits))).toNat) - c)), (IntKind.u64.wrap (y2.2.1 * 2 ^ min (1:Int).toNat IntKind.u64.bits)), (IntKind.u64.wrap (BitVec.ofInt IntKind.u64.bits (IntKind.u64.wrap (y2.2.2.1 * 2 ^ min (1:Int).toNat IntKind.u64.bits)) ||| BitVec.ofInt IntKind.u64.bits (1:Int)).toNat), (IntKind.i64.wrap (y2.2.2.2 + (1:Int))))
theorem sem_wide_Div (hi : Int) (lo : Int) (c : Int) (R : Rs.T [.lf (.int .u64), .lf (.int .i64)] → WP) : Same (semF Tryz.prog Tryz.f121 (.s .o (.s (.b (.s .o (.s (.s .o .o) (.s .o (.s (.s .o .o) .o))))) (.s .o (.s .o (.s .o (.s (.b (.l [(0, .lf (.int .u64)), (1, .lf (.int .u64)), (8, .lf (.int .u64)), (9, .lf (.int .i64))] (.b (.s (.s .o (.s .o .o)) (.s .o (.s .o (.s .o (.s (.s .o (.s .o .o)) .o)))))))) (.s .o .o))))))) [.lf (.int .u64 hi), .lf (.int .u64 lo), .lf (.int .u64 c)] [.lf (.int .u64), .lf (.int .i64)] R) (fun w => W_wide_Div hi lo c R w) := ⟨by kernel_rfl⟩
theorem call_wide_Div (hi : Int) (lo : Int) (c : Int) (R : Rs.T [.lf (.int .u64), .lf (.int .i64)] → WP) (w : World) (h : W_wide_Div hi lo c R w) :
    CallX Tryz.prog N_wide_Div ([.lf (.int .u64 hi), .lf (.int .u64 lo), .lf (.int .u64 c)].map V1.enc) w fun v w' => ∃ x, v = (retTV (Rs.mk [.lf (.int .u64), .lf (.int .i64)] x)).enc ∧ R x w' :=
  callX_of_semF Tryz.func121 (by kernel_rfl) (by kernel_rfl) (sem_wide_Div hi lo c R) h


/-- canter/wide.Mul -/
def W_wide_Mul (a : Int) (b : Int) (R : Rs.T [.lf (.int .u64), .lf (.int .u64)] → WP) : WP :=
  call Tryz.prog N_math_bits_Mul64 [.lf (.int .u64 a), .lf (.int .u64 b)] [.lf (.int .u64), .lf (.int .u64)] fun (r1 : Int × Int) =>
  R (r1.1, r1.2)
theorem sem_wide_Mul (a : Int) (b : Int) (R : Rs.T [.lf (.int .u64), .lf (.int .u64)] → WP) : Same (semF Tryz.prog Tryz.f120 (.s .o (.s .o .o)) [.lf (.int .u64 a), .lf (.int .u64 b)] [.lf (.int .u64), .lf (.int .u64)] R) (fun w => W_wide_Mul a b R w) := ⟨by kernel_rfl⟩
theorem call_wide_Mul (a : Int) (b : Int) (R : Rs.T [.lf (.int .u64), .lf (.int .u64)] → WP) (w : World) (h : W_wide_Mul a b R w) :
    CallX Tryz.prog N_wide_Mul ([.lf (.int .u64 a), .lf (.int .u64 b)].map V1.enc) w fun v w' => ∃ x, v = (retTV (Rs.mk [.lf (.int .u64), .lf (.int .u64)] x)).enc ∧ R x w' :=
  callX_of_semF Tryz.func120 (by kernel_rfl) (by kernel_rfl) (sem_wide_Mul a b R) h


/-- canter/wide.MulDiv -/
def W_wide_MulDiv (a : Int) (b : Int) (c : Int) (R : Rs.T [.lf (.int .u64)] → WP) : WP :=
  call Tryz.prog N_wide_Mul [.lf (.int .u64 a), .lf (.int .u64 b)] [.lf (.int .u64), .lf (.int .u64)] fun (r1 : Int × Int) =>
  ite' ((r1.1 == (0:Int)) && (r1.2 == (0:Int))) (
  R (0:Int)) <|
  call Tryz.prog N_wide_Div [.lf (.int .u64 r1.1), .lf (.int .u64 r1.2), .lf (.int .u64 c)] [.lf (.int .u64), .lf (.int .i64)] fun (r2 : Int × Int) =>
  ite' (r2.2 != (0:Int)) (
  R (18446744073709551615:Int)) <|
  R r2.1
theorem sem_wide_MulDiv (a : Int) (b : Int) (c : Int) (R : Rs.T [.lf (.int .u64)] → WP) : Same (semF Tryz.prog Tryz.f89 (.s .o (.s .o (.s (.s .o (.s (.s .o .o) .o)) (.s .o (.s (.s .o (.s (.s .o .o) .o)) (.s .o .o)))))) [.lf (.int .u64 a), .lf (.int .u64 b), .lf (.int .u64 c)] [.lf (.int .u64)] R) (fun w => W_wide_MulDiv a b c R w) := ⟨by kernel_rfl⟩
theorem call_wide_MulDiv (a : Int) (b : Int) (c : Int) (R : Rs.T [.lf (.int .u64)] → WP) (w : World) (h : W_wide_MulDiv a b c R w) :
    CallX Tryz.prog N_wide_MulDiv ([.lf (.int .u64 a), .lf (.int .u64 b), .lf (.int .u64 c)].map V1.enc) w fun v w' => ∃ x, v = (retTV (Rs.mk [.lf (.int .u64)] x)).enc ∧ R x w' :=
  callX_of_semF Tryz.func89 (by kernel_rfl) (by kernel_rfl) (sem_wide_MulDiv a b c R) h


/-- (*canter/winmax.Max).Best -/
def W_winmax_Max_Best (m : Option Pt) (R : Rs.T [.lf (.int .u64)] → WP) : WP :=
  ite' m.isNone (
  R (0:Int)) <|
  deref m fun q1 =>
  req (0 ≤ (0:Int) ∧ (0:Int) < 3) <|
  ld [.int .u64] ⟨q1.b, q1.o + 1 + (0:Int).toNat * 2 + 1⟩ fun (x2 : Int) =>
  R x2
theorem sem_winmax_Max_Best (m : Option Pt) (R : Rs.T [.lf (.int .u64)] → WP) : Same (semF Tryz.prog Tryz.f123 (.s .o (.s (.s .o (.s (.s .o .o) .o)) (.s .o .o))) [.lf (.ptr m)] [.lf (.int .u64)] R) (fun w => W_winmax_Max_Best m R w) := ⟨by kernel_rfl⟩
theorem call_winmax_Max_Best (m : Option Pt) (R : Rs.T [.lf (.int .u64)] → WP) (w : World) (h : W_winmax_Max_Best m R w) :
    CallX Tryz.prog N_winmax_Max_Best ([.lf (.ptr m)].map V1.enc) w fun v w' => ∃ x, v = (retTV (Rs.mk [.lf (.int .u64)] x)).enc ∧ R x w' :=
  callX_of_semF Tryz.func123 (by kernel_rfl) (by kernel_rfl) (sem_winmax_Max_Best m R) h


/-- (*canter/winmax.Max).Reset -/
def W_winmax_Max_Reset (m : Option Pt) (t : Int) (v : Int) (R : Rs.T [] → WP) : WP :=
  ite' m.isNone (
  R ()) <|
  deref m fun q1 =>
  ld [.int .u64] ⟨q1.b, q1.o + 7⟩ fun (x2 : Int) =>
  deref m fun q3 =>
  st ⟨q3.b, q3.o + 7⟩ [.int .u64 (if t > x2 then t else x2)] <|
  call Tryz.prog N_winmax_Max_all [.lf (.ptr m), .lf (.int .i64 (0:Int)), .agg [.int .u64 t, .int .u64 v]] [] fun (r4 : Unit) =>
  R ()
theorem sem_winmax_Max_Reset (m : Option Pt) (t : Int) (v : Int) (R : Rs.T [] → WP) : Same (semF Tryz.prog Tryz.f174 (.s (.s .o (.s .o .o)) (.s .o .o)) [.lf (.ptr m), .lf (.int .u64 t), .lf (.int .u64 v)] [] R) (fun w => W_winmax_Max_Reset m t v R w) := ⟨by kernel_rfl⟩
theorem call_winmax_Max_Reset (m : Option Pt) (t : Int) (v : Int) (R : Rs.T [] → WP) (w : World) (h : W_winmax_Max_Reset m t v R w) :
    CallX Tryz.prog N_winmax_Max_Reset ([.lf (.ptr m), .lf (.int .u64 t), .lf (.int .u64 v)].map V1.enc) w fun v w' => ∃ x, v = (retTV (Rs.mk [] x)).enc ∧ R x w' :=
  callX_of_semF Tryz.func174 (by kernel_rfl) (by kernel_rfl) (sem_winmax_Max_Reset m t v R) h


/-- (*canter/winmax.Max).Update -/
def W_winmax_Max_Update (d : Option Pt) (o : Int) (a : Int) (R : Rs.T [.lf (.int .u64)] → WP) : WP :=
  ite' d.isNone (
  R (0:Int)) <|
  deref d fun q1 =>
  ld [.int .u64] ⟨q1.b, q1.o + 7⟩ fun (x2 : Int) =>
  deref d fun q3 =>
  st ⟨q3.b, q3.o + 7⟩ [.int .u64 (if o > x2 then o else x2)] <|
  deref d fun q4 =>
  ld [.int .u64] ⟨q4.b, q4.o + 7⟩ fun (x5 : Int) =>
  new [.int .u64 (0:Int), .int .u64 (0:Int)] fun n6 =>
  st ⟨n6, 0⟩ [.int .u64 x5, .int .u64 a] <|
  join [.bool] (fun J7 =>
  drw <|
  deref d fun q9 =>
  req (0 ≤ (0:Int) ∧ (0:Int) < 3) <|
  ld [.int .u64] ⟨q9.b, q9.o + 1 + (0:Int).toNat * 2 + 1⟩ fun (x10 : Int) =>
  ite' (decide (a ≥ x10)) (
  J7 true) <|
  ld [.int .u64] ⟨n6, 0⟩ fun (x11 : Int) =>
  deref d fun q12 =>
  deref d fun q13 =>
  req (0 ≤ (2:Int) ∧ (2:Int) < 3) <|
  ld [.int .u64] q13 fun (x14 : Int) =>
  ld [.int .u64, .int .u64] ⟨q12.b, q12.o + 1 + (2:Int).toNat * 2⟩ fun (x15 : Int × Int) =>
  call Tryz.prog N_winmax_near [.lf (.int .u64 x11), .agg (Ks.mk [.int .u64, .int .u64] x15), .lf (.int .u64 x14)] [.lf .bool] fun (r16 : Bool) =>
  J7 (!r16)) fun (y8 : Bool) =>
  ite' y8 (
  ld [.int .u64] ⟨n6, 0⟩ fun (x17 : Int) =>
  call Tryz.prog N_winmax_Max_Reset [.lf (.ptr d), .lf (.int .u64 x17), .lf (.int .u64 a)] [] fun (r18 : Unit) =>
  R a) <|
  join [] (fun J19 =>
  loop [.int .i64] (0:Int) fun J21 (y22 : Int) =>
  ite' (decide (y22 < (3:Int))) (
  join [.bool] (fun J23 =>
  ite' (decide (y22 > (0:Int))) (
  deref d fun q25 =>
  req (0 ≤ y22 ∧ y22 < 3) <|
  ld [.int .u64] ⟨q25.b, q25.o + 1 + y22.toNat * 2 + 1⟩ fun (x26 : Int) =>
  J23 (decide (a ≥ x26))) <|
  J23 false) fun (y24 : Bool) =>
  ite' y24 (
  ld [.int .u64, .int .u64] ⟨n6, 0⟩ fun (x27 : Int × Int) =>
  call Tryz.prog N_winmax_Max_all [.lf (.ptr d), .lf (.int .i64 y22), .agg (Ks.mk [.int .u64, .int .u64] x27)] [] fun (r28 : Unit) =>
  J19 ()) <|
  J21 (IntKind.i64.wrap (y22 + (1:Int)))) <|
  J19 ()) fun (y20 : Unit) =>
  join [] (fun J29 =>
  drw <|
  ld [.int .u64] ⟨n6, 0⟩ fun (x31 : Int) =>
  deref d fun q32 =>
  deref d fun q33 =>
  req (0 ≤ (0:Int) ∧ (0:Int) < 3) <|
  ld [.int .u64] q33 fun (x34 : Int) =>
  ld [.int .u64, .int .u64] ⟨q32.b, q32.o + 1 + (0:Int).toNat * 2⟩ fun (x35 : Int × Int) =>
  call Tryz.prog N_winmax_near [.lf (.int .u64 x31), .agg (Ks.mk [.int .u64, .int .u64] x35), .lf (.int .u64 x34)] [.lf .bool] fun (r36 : Bool) =>
  ite' (!r36) (
  ld [.int .u64, .int .u64] ⟨n6, 0⟩ fun (x37 : Int × Int) =>
  call Tryz.prog N_winmax_Max_push [.lf (.ptr d), .agg (Ks.mk [.int .u64, .int .u64] x37)] [] fun (r38 : Unit) =>
  drw <|
  ld [.int .u64] ⟨n6, 0⟩ fun (x39 : Int) =>
  deref d fun q40 =>
  deref d fun q41 =>
  req (0 ≤ (0:Int) ∧ (0:Int) < 3) <|
  ld [.int .u64] q41 fun (x42 : Int) =>
  ld [.int .u64, .int .u64] ⟨q40.b, q40.o + 1 + (0:Int).toNat * 2⟩ fun (x43 : Int × Int) =>
  call Tryz.prog N_winmax_near [.lf (.int .u64 x39), .agg (Ks.mk [.int .u64, .int .u64] x43), .lf (.int .u64 x42)] [.lf .bool] fun (r44 : Bool) =>
  ite' (!r44) (
  ld [.int .u64, .int .u64] ⟨n6, 0⟩ fun (x45 : Int × Int) =>
  call Tryz.prog N_winmax_Max_push [.lf (.ptr d), .agg (Ks.mk [.int .u64, .int .u64] x45)] [] fun (r46 : Unit) =>
  J29 ()) <|
  J29 ()) <|
  join [.bool] (fun J47 =>
  drw <|
  deref d fun q49 =>
  deref d fun q50 =>
  req (0 ≤ (1:Int) ∧ (1:Int) < 3) <|
  req (0 ≤ (0:Int) ∧ (0:Int) < 3) <|
  ld [.int .u64] ⟨q49.b, q49.o + 1 + (1:Int).toNat * 2⟩ fun (x51 : Int) =>
  ld [.int .u64] ⟨q50.b, q50.o + 1 + (0:Int).toNat * 2⟩ fun (x52 : Int) =>
  ite' (x51 == x52) (
  ld [.int .u64] ⟨n6, 0⟩ fun (x53 : Int) =>
  deref d fun q54 =>
  deref d fun q55 =>
  req (0 ≤ (0:Int) ∧ (0:Int) < 3) <|
  ld [.int .u64] q55 fun (x56 : Int) =>
  ld [.int .u64, .int .u64] ⟨q54.b, q54.o + 1 + (0:Int).toNat * 2⟩ fun (x57 : Int × Int) =>
  call Tryz.prog N_winmax_near [.lf (.int .u64 x53), .agg (Ks.mk [.int .u64, .int .u64] x57), .lf (.int .u64 (IntKind.u64.wrap (x56.tdiv (4:Int))))] [.lf .bool] fun (r58 : Bool) =>
  J47 (!r58)) <|
  J47 false) fun (y48 : Bool) =>
  ite' y48 (
  ld [.int .u64, .int .u64] ⟨n6, 0⟩ fun (x59 : Int × Int) =>
  call Tryz.prog N_winmax_Max_all [.lf (.ptr d), .lf (.int .i64 (1:Int)), .agg (Ks.mk [.int .u64, .int .u64] x59)] [] fun (r60 : Unit) =>
  J29 ()) <|
  join [.bool] (fun J61 =>
  drw <|
  deref d fun q63 =>
  deref d fun q64 =>
  req (0 ≤ (2:Int) ∧ (2:Int) < 3) <|
  req (0 ≤ (1:Int) ∧ (1:Int) < 3) <|
  ld [.int .u64] ⟨q63.b, q63.o + 1 + (2:Int).toNat * 2⟩ fun (x65 : Int) =>
  ld [.int .u64] ⟨q64.b, q64.o + 1 + (1:Int).toNat * 2⟩ fun (x66 : Int) =>
  ite' (x65 == x66) (
  ld [.int .u64] ⟨n6, 0⟩ fun (x67 : Int) =>
  deref d fun q68 =>
  deref d fun q69 =>
  req (0 ≤ (0:Int) ∧ (0:Int) < 3) <|
  ld [.int .u64] q69 fun (x70 : Int) =>
  ld [.int .u64, .int .u64] ⟨q68.b, q68.o + 1 + (0:Int).toNat * 2⟩ fun (x71 : Int × Int) =>
  call Tryz.prog N_winmax_near [.lf (.int .u64 x67), .agg (Ks.mk [.int .u64, .int .u64] x71), .lf (.int .u64 (IntKind.u64.wrap (x70.tdiv (2:Int))))] [.lf .bool] fun (r72 : Bool) =>
  J61 (!r72)) <|
  J61 false) fun (y62 : Bool) =>
  ite' y62 (
  ld [.int .u64, .int .u64] ⟨n6, 0⟩ fun (x73 : Int × Int) =>
  call Tryz.prog N_winmax_Max_all [.lf (.ptr d), .lf (.int .i64 (2:Int)), .agg (Ks.mk [.int .u64, .int .u64] x73)] [] fun (r74 : Unit) =>
  J29 ()) <|
  J29 ()) fun (y30 : Unit) =>
  deref d fun q75 =>
  req (0 ≤ (0:Int) ∧ (0:Int) < 3) <|
  ld [.int .u64] ⟨q75.b, q75.o + 1 + (0:Int).toNat * 2 + 1⟩ fun (x76 : Int) =>
  R x76
theorem sem_winmax_Max_Update (d : Option Pt) (o : Int) (a : Int) (R : Rs.T [.lf (.int .u64)] → WP) : Same (semF Tryz.prog Tryz.f160 (.s .o (.s (.s .o (.s (.s .o .o) .o)) (.s .o (.s .o (.s (.j [(48, .lf .bool)] (.d (.f 0 [2] (.f 1 [0] (.f 2 [27] (.f 3 [28] (.f 4 [29] (.f 5 [30] (.f 6 [31] (.f 7 [26, 32] (.f 8 [33] (.f 9 [7, 34] (.f 11 [0, 34] (.f 16 [0, 34] (.f 10 [34, 35] (.f 12 [34, 37] (.f 17 [34, 42] (.f 13 [34, 38] (.f 18 [34, 43] (.f 14 [34, 39] (.f 19 [34, 44] (.f 15 [34, 40] (.w 20 [34, 36, 41, 45] (.f 21 [34, 46] (.f 22 [34, 47] .fin)))))))))))))))))))))))) (.s (.s .o (.s .o .o)) .o)) (.s .o (.j [] (.s .o (.b (.l [(55, .lf (.int .i64))] (.s .o (.s (.s .o .o) (.s (.b (.s .o (.j [(70, .lf .bool)] .o (.s (.s .o .o) .o)))) .o)))))) (.j [] (.b (.s (.d (.f 0 [7] (.f 2 [0] (.f 7 [0] (.f 1 [77] (.f 3 [79] (.f 8 [84] (.f 4 [80] (.f 9 [85] (.f 5 [81] (.f 10 [86] (.f 6 [82] (.w 11 [78, 83, 87] (.f 12 [88] (.w 13 [89] .fin))))))))))))))) (.s (.s .o (.s (.d (.f 0 [7] (.f 2 [0] (.f 7 [0] (.f 1 [93] (.f 3 [95] (.f 8 [100] (.f 4 [96] (.f 9 [101] (.f 5 [97] (.f 10 [102] (.f 6 [98] (.w 11 [94, 99, 103] (.f 12 [104] .fin)))))))))))))) (.s .o .o))) (.j [(109, .lf .bool)] (.d (.f 0 [0] (.f 6 [0] (.f 1 [110] (.f 7 [116] (.f 2 [111] (.f 8 [117] (.f 3 [112] (.f 9 [118] (.f 4 [113] (.f 10 [119] (.f 5 [114] (.f 11 [120] (.f 12 [115, 121] (.f 13 [122] (.f 14 [7, 123] (.f 16 [0, 123] (.f 21 [0, 123] (.f 15 [123, 124] (.f 17 [123, 126] (.f 22 [123, 131] (.f 18 [123, 127] (.f 23 [123, 132] (.f 19 [123, 128] (.f 24 [123, 133] (.f 20 [123, 129] (.f 25 [123, 134] (.w 26 [123, 125, 130, 135] (.f 27 [123, 136] (.f 28 [123, 137] (.w 29 [138] .fin))))))))))))))))))))))))))))))) (.s .o (.j [(142, .lf .bool)] (.d (.f 0 [0] (.f 6 [0] (.f 1 [143] (.f 7 [149] (.f 2 [144] (.f 8 [150] (.f 3 [145] (.f 9 [151] (.f 4 [146] (.f 10 [152] (.f 5 [147] (.f 11 [153] (.f 12 [148, 154] (.f 13 [155] (.f 14 [7, 156] (.f 16 [0, 156] (.f 21 [0, 156] (.f 15 [156, 157] (.f 17 [156, 159] (.f 22 [156, 164] (.f 18 [156, 160] (.f 23 [156, 165] (.f 19 [156, 161] (.f 24 [156, 166] (.f 20 [156, 162] (.f 25 [156, 167] (.w 26 [156, 158, 163, 168] (.f 27 [156, 169] (.f 28 [156, 170] (.w 29 [171] .fin))))))))))))))))))))))))))))))) (.s .o .o))))))) (.s .o .o))))))))) [.lf (.ptr d), .lf (.int .u64 o), .lf (.int .u64 a)] [.lf (.int .u64)] R) (fun w => W_winmax_Max_Update d o a R w) := ⟨by kernel_rfl⟩
theorem call_winmax_Max_Update (d : Option Pt) (o : Int) (a : Int) (R : Rs.T [.lf (.int .u64)] → WP) (w : World) (h : W_winmax_Max_Update d o a R w) :
    CallX Tryz.prog N_winmax_Max_Update ([.lf (.ptr d), .lf (.int .u64 o), .lf (.int .u64 a)].map V1.enc) w fun v w' => ∃ x, v = (retTV (Rs.mk [.lf (.int .u64)] x)).enc ∧ R x w' :=
  callX_of_semF Tryz.func160 (by kernel_rfl) (by kernel_rfl) (sem_winmax_Max_Update d o a R) h


/-- (*canter/winmax.Max).all -/
def W_winmax_Max_all (m : Option Pt) (from' : Int) (s : Int × Int) (R : Rs.T [] → WP) : WP :=
  new (Ks.mk [.int .u64, .int .u64] s) fun n1 =>
  deref m fun q2 =>
  slc ⟨some ⟨q2.b, q2.o + 1⟩, 3, 3⟩ (some from') none none 2 fun s3 =>
  loop [.int .i64] (0:Int) fun J4 (y5 : Int) =>
  ite' (decide (y5 < ((s3.len : Nat) : Int))) (
  drw <|
  ld [.int .u64, .int .u64] ⟨n1, 0⟩ fun (x6 : Int × Int) =>
  deref m fun q7 =>
  req (0 ≤ (IntKind.i64.wrap (from' + y5)) ∧ (IntKind.i64.wrap (from' + y5)) < 3) <|
  st ⟨q7.b, q7.o + 1 + (IntKind.i64.wrap (from' + y5)).toNat * 2⟩ (Ks.mk [.int .u64, .int .u64] x6) <|
  J4 (IntKind.i64.wrap (y5 + (1:Int)))) <|
  R ()
theorem sem_winmax_Max_all (m : Option Pt) (from' : Int) (s : Int × Int) (R : Rs.T [] → WP) : Same (semF Tryz.prog Tryz.f175 (.s .o (.s .o (.b (.l [(13, .lf (.int .i64))] (.s .o (.s (.s .o .o) (.s (.b (.s .o (.d (.f 0 [0] (.f 1 [1] (.f 2 [6] (.f 4 [5] (.f 3 [17, 18] (.f 5 [16] (.f 6 [21] (.f 7 [19, 22] (.w 8 [20, 23] .fin)))))))))))) .o))))))) [.lf (.ptr m), .lf (.int .i64 from'), .agg (Ks.mk [.int .u64, .int .u64] s)] [] R) (fun w => W_winmax_Max_all m from' s R w) := ⟨by kernel_rfl⟩
theorem call_winmax_Max_all (m : Option Pt) (from' : Int) (s : Int × Int) (R : Rs.T [] → WP) (w : World) (h : W_winmax_Max_all m from' s R w) :
    CallX Tryz.prog N_winmax_Max_all ([.lf (.ptr m), .lf (.int .i64 from'), .agg (Ks.mk [.int .u64, .int .u64] s)].map V1.enc) w fun v w' => ∃ x, v = (retTV (Rs.mk [] x)).enc ∧ R x w' :=
  callX_of_semF Tryz.func175 (by kernel_rfl) (by kernel_rfl) (sem_winmax_Max_all m from' s R) h


/-- (*canter/winmax.Max).push -/
def W_winmax_Max_push (m : Option Pt) (s : Int × Int) (R : Rs.T [] → WP) : WP :=
  new (Ks.mk [.int .u64, .int .u64] s) fun n1 =>
  drw <|
  ld [.int .u64, .int .u64] ⟨n1, 0⟩ fun (x2 : Int × Int) =>
  deref m fun q3 =>
  deref m fun q4 =>
  deref m fun q5 =>
  deref m fun q6 =>
  deref m fun q7 =>
  req (0 ≤ (1:Int) ∧ (1:Int) < 3) <|
  req (0 ≤ (2:Int) ∧ (2:Int) < 3) <|
  ld [.int .u64, .int .u64] ⟨q3.b, q3.o + 1 + (1:Int).toNat * 2⟩ fun (x8 : Int × Int) =>
  ld [.int .u64, .int .u64] ⟨q4.b, q4.o + 1 + (2:Int).toNat * 2⟩ fun (x9 : Int × Int) =>
  req (0 ≤ (0:Int) ∧ (0:Int) < 3) <|
  st ⟨q5.b, q5.o + 1 + (0:Int).toNat * 2⟩ (Ks.mk [.int .u64, .int .u64] x8) <|
  chk ⟨n1, 0⟩ (Ks.mk [.int .u64, .int .u64] x2) <|
  req (0 ≤ (1:Int) ∧ (1:Int) < 3) <|
  st ⟨q6.b, q6.o + 1 + (1:Int).toNat * 2⟩ (Ks.mk [.int .u64, .int .u64] x9) <|
  chk ⟨n1, 0⟩ (Ks.mk [.int .u64, .int .u64] x2) <|
  req (0 ≤ (2:Int) ∧ (2:Int) < 3) <|
  st ⟨q7.b, q7.o + 1 + (2:Int).toNat * 2⟩ (Ks.mk [.int .u64, .int .u64] x2) <|
  R ()
theorem sem_winmax_Max_push (m : Option Pt) (s : Int × Int) (R : Rs.T [] → WP) : Same (semF Tryz.prog Tryz.f176 (.s .o (.d (.f 0 [0] (.f 1 [0] (.f 2 [0] (.f 3 [0] (.f 8 [0] (.f 13 [3] (.f 4 [7] (.f 9 [12] (.f 14 [4] (.f 18 [5] (.f 22 [6] (.f 5 [8] (.f 10 [13] (.f 15 [18] (.f 19 [21] (.f 23 [24] (.f 6 [9] (.f 11 [14] (.f 7 [10] (.f 12 [15] (.f 16 [19] (.w 17 [11, 20] (.f 20 [22] (.w 21 [16, 23] (.f 24 [25] (.w 25 [17, 26] .fin)))))))))))))))))))))))))))) [.lf (.ptr m), .agg (Ks.mk [.int .u64, .int .u64] s)] [] R) (fun w => W_winmax_Max_push m s R w) := ⟨by kernel_rfl⟩
theorem call_winmax_Max_push (m : Option Pt) (s : Int × Int) (R : Rs.T [] → WP) (w : World) (h : W_winmax_Max_push m s R w) :
    CallX Tryz.prog N_winmax_Max_push ([.lf (.ptr m), .agg (Ks.mk [.int .u64, .int .u64] s)].map V1.enc) w fun v w' => ∃ x, v = (retTV (Rs.mk [] x)).enc ∧ R x w' :=
  callX_of_semF Tryz.func176 (by kernel_rfl) (by kernel_rfl) (sem_winmax_Max_push m s R) h


/-- canter/winmax.New -/
def W_winmax_New (window : Int) (R : Rs.T [.lf .ptr] → WP) : WP :=
  new [.int .u64 window, .int .u64 (0:Int), .int .u64 (0:Int), .int .u64 (0:Int), .int .u64 (0:Int), .int .u64 (0:Int), .int .u64 (0:Int), .int .u64 (0:Int)] fun n1 =>
  R (some ⟨n1, 0⟩)
theorem sem_winmax_New (window : Int) (R : Rs.T [.lf .ptr] → WP) : Same (semF Tryz.prog Tryz.f74 (.s .o (.s .o (.s .o .o))) [.lf (.int .u64 window)] [.lf .ptr] R) (fun w => W_winmax_New window R w) := ⟨by kernel_rfl⟩
theorem call_winmax_New (window : Int) (R : Rs.T [.lf .ptr] → WP) (w : World) (h : W_winmax_New window R w) :
    CallX Tryz.prog N_winmax_New ([.lf (.int .u64 window)].map V1.enc) w fun v w' => ∃ x, v = (retTV (Rs.mk [.lf .ptr] x)).enc ∧ R x w' :=
  callX_of_semF Tryz.func74 (by kernel_rfl) (by kernel_rfl) (sem_winmax_New window R) h


/-- canter/winmax.near -/
def W_winmax_near (t : Int) (s : Int × Int) (window : Int) (R : Rs.T [.lf .bool] → WP) : WP :=
  new (Ks.mk [.int .u64, .int .u64] s) fun n1 =>
  ld [.int .u64] ⟨n1, 0⟩ fun (x2 : Int) =>
  R (decide ((IntKind.u64.wrap (t - (if x2 < t then x2 else t))) ≤ window))
theorem sem_winmax_near (t : Int) (s : Int × Int) (window : Int) (R : Rs.T [.lf .bool] → WP) : Same (semF Tryz.prog Tryz.f173 (.s .o (.s .o .o)) [.lf (.int .u64 t), .agg (Ks.mk [.int .u64, .int .u64] s), .lf (.int .u64 window)] [.lf .bool] R) (fun w => W_winmax_near t s window R w) := ⟨by kernel_rfl⟩
theorem call_winmax_near (t : Int) (s : Int × Int) (window : Int) (R : Rs.T [.lf .bool] → WP) (w : World) (h : W_winmax_near t s window R w) :
    CallX Tryz.prog N_winmax_near ([.lf (.int .u64 t), .agg (Ks.mk [.int .u64, .int .u64] s), .lf (.int .u64 window)].map V1.enc) w fun v w' => ∃ x, v = (retTV (Rs.mk [.lf .bool] x)).enc ∧ R x w' :=
  callX_of_semF Tryz.func173 (by kernel_rfl) (by kernel_rfl) (sem_winmax_near t s window R) h



end Go.X
