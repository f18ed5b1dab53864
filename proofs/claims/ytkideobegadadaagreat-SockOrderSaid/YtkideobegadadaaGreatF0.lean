/- What each function of the program computes, as a weakest precondition, printed by program; the kernel sees that the code says so. -/
import Derived.Test.YtkideobegadadaaGreatK
import Derived.Test.YtkideobegadadaaGreatProg
set_option linter.unusedVariables false
namespace Go.X
open Go.Proofs
/-- (*canter/bbr.Model).State -/
def W_bbr_Model_State (m : Option Pt) (R : Rs.T [.agg K_i2u6b2] → WP) : WP :=
  new [.int .i64 (0:Int), .int .i64 (0:Int), .int .u64 (0:Int), .int .u64 (0:Int), .int .u64 (0:Int), .int .u64 (0:Int), .int .u64 (0:Int), .int .u64 (0:Int), .bool false, .bool false] fun n1 =>
  ite' m.isNone (
  st ⟨n1, 0⟩ [.int .i64 (0:Int), .int .i64 (0:Int), .int .u64 (0:Int), .int .u64 (0:Int), .int .u64 (0:Int), .int .u64 (0:Int), .int .u64 (0:Int), .int .u64 (0:Int), .bool false, .bool false] <|
  ld K_i2u6b2 ⟨n1, 0⟩ fun (x2 : T_i2u6b2) =>
  R x2) <|
  drw <|
  deref m fun q3 =>
  deref m fun q4 =>
  deref m fun q5 =>
  deref m fun q6 =>
  deref m fun q7 =>
  deref m fun q8 =>
  deref m fun q9 =>
  ld [.int .i64] ⟨q3.b, q3.o + 7⟩ fun (x10 : Int) =>
  ld [.int .u64] ⟨q4.b, q4.o + 8⟩ fun (x11 : Int) =>
  ld [.int .u64] ⟨q5.b, q5.o + 9⟩ fun (x12 : Int) =>
  ld [.ptr] ⟨q6.b, q6.o + 4⟩ fun (x13 : Option Pt) =>
  ld [.ptr] ⟨q7.b, q7.o + 1⟩ fun (x14 : Option Pt) =>
  ld [.ptr] ⟨q8.b, q8.o + 3⟩ fun (x15 : Option Pt) =>
  ld [.ptr] ⟨q9.b, q9.o + 2⟩ fun (x16 : Option Pt) =>
  call Tryz.prog N_bbr_Model_bw [.lf (.ptr m)] [.lf (.int .u64)] fun (r17 : Int) =>
  chk ⟨q9.b, q9.o + 2⟩ (Ks.mk [.ptr] x16) <|
  chk ⟨q8.b, q8.o + 3⟩ (Ks.mk [.ptr] x15) <|
  chk ⟨q7.b, q7.o + 1⟩ (Ks.mk [.ptr] x14) <|
  chk ⟨q6.b, q6.o + 4⟩ (Ks.mk [.ptr] x13) <|
  chk ⟨q5.b, q5.o + 9⟩ (Ks.mk [.int .u64] x12) <|
  chk ⟨q4.b, q4.o + 8⟩ (Ks.mk [.int .u64] x11) <|
  chk ⟨q3.b, q3.o + 7⟩ (Ks.mk [.int .i64] x10) <|
  call Tryz.prog N_probe_Probe_Best [.lf (.ptr x13)] [.lf (.int .u64)] fun (r18 : Int) =>
  chk ⟨q9.b, q9.o + 2⟩ (Ks.mk [.ptr] x16) <|
  chk ⟨q8.b, q8.o + 3⟩ (Ks.mk [.ptr] x15) <|
  chk ⟨q7.b, q7.o + 1⟩ (Ks.mk [.ptr] x14) <|
  chk ⟨q5.b, q5.o + 9⟩ (Ks.mk [.int .u64] x12) <|
  chk ⟨q4.b, q4.o + 8⟩ (Ks.mk [.int .u64] x11) <|
  chk ⟨q3.b, q3.o + 7⟩ (Ks.mk [.int .i64] x10) <|
  call Tryz.prog N_bbr_Model_gain [.lf (.ptr m)] [.lf (.int .u64)] fun (r19 : Int) =>
  chk ⟨q9.b, q9.o + 2⟩ (Ks.mk [.ptr] x16) <|
  chk ⟨q8.b, q8.o + 3⟩ (Ks.mk [.ptr] x15) <|
  chk ⟨q7.b, q7.o + 1⟩ (Ks.mk [.ptr] x14) <|
  chk ⟨q5.b, q5.o + 9⟩ (Ks.mk [.int .u64] x12) <|
  chk ⟨q4.b, q4.o + 8⟩ (Ks.mk [.int .u64] x11) <|
  chk ⟨q3.b, q3.o + 7⟩ (Ks.mk [.int .i64] x10) <|
  call Tryz.prog N_rounds_Rounds_Count [.lf (.ptr x14)] [.lf (.int .u64)] fun (r20 : Int) =>
  chk ⟨q9.b, q9.o + 2⟩ (Ks.mk [.ptr] x16) <|
  chk ⟨q8.b, q8.o + 3⟩ (Ks.mk [.ptr] x15) <|
  chk ⟨q5.b, q5.o + 9⟩ (Ks.mk [.int .u64] x12) <|
  chk ⟨q4.b, q4.o + 8⟩ (Ks.mk [.int .u64] x11) <|
  chk ⟨q3.b, q3.o + 7⟩ (Ks.mk [.int .i64] x10) <|
  call Tryz.prog N_cycle_Cycle_Phase [.lf (.ptr x15)] [.lf (.int .i64)] fun (r21 : Int) =>
  chk ⟨q9.b, q9.o + 2⟩ (Ks.mk [.ptr] x16) <|
  chk ⟨q5.b, q5.o + 9⟩ (Ks.mk [.int .u64] x12) <|
  chk ⟨q4.b, q4.o + 8⟩ (Ks.mk [.int .u64] x11) <|
  chk ⟨q3.b, q3.o + 7⟩ (Ks.mk [.int .i64] x10) <|
  call Tryz.prog N_pipe_Pipe_Full [.lf (.ptr x16)] [.lf .bool] fun (r22 : Bool) =>
  chk ⟨q5.b, q5.o + 9⟩ (Ks.mk [.int .u64] x12) <|
  chk ⟨q4.b, q4.o + 8⟩ (Ks.mk [.int .u64] x11) <|
  chk ⟨q3.b, q3.o + 7⟩ (Ks.mk [.int .i64] x10) <|
  call Tryz.prog N_bbr_Model_policed [.lf (.ptr m)] [.lf .bool] fun (r23 : Bool) =>
  chk ⟨q5.b, q5.o + 9⟩ (Ks.mk [.int .u64] x12) <|
  chk ⟨q4.b, q4.o + 8⟩ (Ks.mk [.int .u64] x11) <|
  chk ⟨q3.b, q3.o + 7⟩ (Ks.mk [.int .i64] x10) <|
  st ⟨n1, 0⟩ [.int .i64 x10, .int .i64 r21, .int .u64 x11, .int .u64 x12, .int .u64 r17, .int .u64 r18, .int .u64 r19, .int .u64 r20, .bool r22, .bool r23] <|
  ld K_i2u6b2 ⟨n1, 0⟩ fun (x24 : T_i2u6b2) =>
  R x24
theorem sem_bbr_Model_State (m : Option Pt) (R : Rs.T [.agg K_i2u6b2] → WP) : Same (semF Tryz.prog Tryz.f46 (.s .o (.s (.s .o (.s (.s .o .o) .o)) (.s (.d (.f 0 [0] (.f 4 [0] (.f 8 [0] (.f 12 [0] (.f 14 [0] (.f 19 [0] (.f 21 [0] (.f 26 [0] (.f 31 [0] (.f 36 [0] (.f 1 [6] (.f 5 [10] (.f 9 [14] (.f 15 [20] (.f 22 [27] (.f 27 [32] (.f 32 [37] (.f 2 [7] (.f 6 [11] (.f 10 [15] (.f 16 [21] (.f 23 [28] (.f 28 [33] (.f 33 [38] (.f 3 [8] (.f 7 [12] (.f 11 [16] (.f 17 [22] (.f 24 [29] (.f 29 [34] (.f 34 [39] (.w 13 [18] (.w 18 [23] (.w 20 [25] (.w 25 [30] (.w 30 [35] (.w 35 [40] (.w 37 [42] (.f 38 [9, 13, 17, 19, 24, 26, 31, 36, 41, 43] (.w 39 [2, 44] .fin))))))))))))))))))))))))))))))))))))))))) .o))) [.lf (.ptr m)] [.agg K_i2u6b2] R) (fun w => W_bbr_Model_State m R w) := ⟨by kernel_rfl⟩
theorem call_bbr_Model_State (m : Option Pt) (R : Rs.T [.agg K_i2u6b2] → WP) (w : World) (h : W_bbr_Model_State m R w) :
    CallX Tryz.prog N_bbr_Model_State ([.lf (.ptr m)].map V1.enc) w fun v w' => ∃ x, v = (retTV (Rs.mk [.agg K_i2u6b2] x)).enc ∧ R x w' :=
  callX_of_semF Tryz.func46 (by kernel_rfl) (by kernel_rfl) (sem_bbr_Model_State m R) h


/-- (*canter/bbr.Model).Update -/
def W_bbr_Model_Update (d : Option Pt) (o : T_u8b) (a : Int) (R : Rs.T [.agg K_i2u6b2] → WP) : WP :=
  new (Ks.mk K_u8b o) fun n1 =>
  new [.int .i64 (0:Int), .int .i64 (0:Int), .int .u64 (0:Int), .int .u64 (0:Int), .int .u64 (0:Int), .int .u64 (0:Int), .int .u64 (0:Int), .int .u64 (0:Int), .bool false, .bool false] fun n2 =>
  ite' d.isNone (
  st ⟨n2, 0⟩ [.int .i64 (0:Int), .int .i64 (0:Int), .int .u64 (0:Int), .int .u64 (0:Int), .int .u64 (0:Int), .int .u64 (0:Int), .int .u64 (0:Int), .int .u64 (0:Int), .bool false, .bool false] <|
  ld K_i2u6b2 ⟨n2, 0⟩ fun (x3 : T_i2u6b2) =>
  R x3) <|
  drw <|
  ld K_u8b ⟨n1, 0⟩ fun (x4 : T_u8b) =>
  deref d fun q5 =>
  ld [.ptr] ⟨q5.b, q5.o + 1⟩ fun (x6 : Option Pt) =>
  call Tryz.prog N_rounds_Rounds_Update [.lf (.ptr x6), .agg (Ks.mk K_u8b x4)] [.lf .bool] fun (r7 : Bool) =>
  drw <|
  ld K_u8b ⟨n1, 0⟩ fun (x8 : T_u8b) =>
  deref d fun q9 =>
  ld [.ptr] ⟨q9.b, q9.o + 5⟩ fun (x10 : Option Pt) =>
  call Tryz.prog N_policer_Policer_Update [.lf (.ptr x10), .lf (.bool r7), .agg (Ks.mk K_u8b x8)] [] fun (r11 : Unit) =>
  ld K_u8b ⟨n1, 0⟩ fun (x12 : T_u8b) =>
  call Tryz.prog N_bbr_Model_measure [.lf (.ptr d), .agg (Ks.mk K_u8b x12)] [] fun (r13 : Unit) =>
  join [] (fun J14 =>
  join [.bool] (fun J16 =>
  deref d fun q18 =>
  ld [.int .i64] ⟨q18.b, q18.o + 7⟩ fun (x19 : Int) =>
  ite' (x19 == (2:Int)) (
  call Tryz.prog N_bbr_Model_policed [.lf (.ptr d)] [.lf .bool] fun (r20 : Bool) =>
  J16 (!r20)) <|
  J16 false) fun (y17 : Bool) =>
  ite' y17 (
  drw <|
  deref d fun q21 =>
  ld [.int .u64] ⟨n1, 0⟩ fun (x22 : Int) =>
  deref d fun q23 =>
  ld [.int .u64] ⟨n1, 6⟩ fun (x24 : Int) =>
  ld [.int .u64] ⟨n1, 7⟩ fun (x25 : Int) =>
  ld [.ptr] ⟨q21.b, q21.o + 3⟩ fun (x26 : Option Pt) =>
  ld [.ptr] ⟨q23.b, q23.o + 4⟩ fun (x27 : Option Pt) =>
  call Tryz.prog N_probe_Probe_Best [.lf (.ptr x27)] [.lf (.int .u64)] fun (r28 : Int) =>
  chk ⟨q21.b, q21.o + 3⟩ (Ks.mk [.ptr] x26) <|
  chk ⟨n1, 7⟩ (Ks.mk [.int .u64] x25) <|
  chk ⟨n1, 6⟩ (Ks.mk [.int .u64] x24) <|
  chk ⟨n1, 0⟩ (Ks.mk [.int .u64] x22) <|
  call Tryz.prog N_bbr_Model_bdp [.lf (.ptr d), .lf (.int .u64 (320:Int))] [.lf (.int .u64)] fun (r29 : Int) =>
  chk ⟨q21.b, q21.o + 3⟩ (Ks.mk [.ptr] x26) <|
  chk ⟨n1, 7⟩ (Ks.mk [.int .u64] x25) <|
  chk ⟨n1, 6⟩ (Ks.mk [.int .u64] x24) <|
  chk ⟨n1, 0⟩ (Ks.mk [.int .u64] x22) <|
  call Tryz.prog N_bbr_Model_bdp [.lf (.ptr d), .lf (.int .u64 (256:Int))] [.lf (.int .u64)] fun (r30 : Int) =>
  chk ⟨q21.b, q21.o + 3⟩ (Ks.mk [.ptr] x26) <|
  chk ⟨n1, 7⟩ (Ks.mk [.int .u64] x25) <|
  chk ⟨n1, 6⟩ (Ks.mk [.int .u64] x24) <|
  chk ⟨n1, 0⟩ (Ks.mk [.int .u64] x22) <|
  call Tryz.prog N_cycle_Cycle_Update [.lf (.ptr x26), .lf (.int .u64 x22), .lf (.int .u64 r28), .lf (.int .u64 x24), .lf (.int .u64 x25), .lf (.int .u64 r29), .lf (.int .u64 r30)] [.lf .bool] fun (r31 : Bool) =>
  J14 ()) <|
  J14 ()) fun (y15 : Unit) =>
  drw <|
  deref d fun q32 =>
  ld [.bool] ⟨n1, 8⟩ fun (x33 : Bool) =>
  deref d fun q34 =>
  ld [.ptr] ⟨q32.b, q32.o + 2⟩ fun (x35 : Option Pt) =>
  ld [.ptr] q34 fun (x36 : Option Pt) =>
  call Tryz.prog N_winmax_Max_Best [.lf (.ptr x36)] [.lf (.int .u64)] fun (r37 : Int) =>
  chk ⟨q32.b, q32.o + 2⟩ (Ks.mk [.ptr] x35) <|
  chk ⟨n1, 8⟩ (Ks.mk [.bool] x33) <|
  call Tryz.prog N_pipe_Pipe_Update [.lf (.ptr x35), .lf (.bool r7), .lf (.bool x33), .lf (.int .u64 r37)] [.lf .bool] fun (r38 : Bool) =>
  ld K_u8b ⟨n1, 0⟩ fun (x39 : T_u8b) =>
  call Tryz.prog N_bbr_Model_modes [.lf (.ptr d), .agg (Ks.mk K_u8b x39)] [] fun (r40 : Unit) =>
  ld K_u8b ⟨n1, 0⟩ fun (x41 : T_u8b) =>
  call Tryz.prog N_bbr_Model_look [.lf (.ptr d), .agg (Ks.mk K_u8b x41), .lf (.bool r7)] [] fun (r42 : Unit) =>
  call Tryz.prog N_bbr_Model_pace [.lf (.ptr d)] [] fun (r43 : Unit) =>
  ld K_u8b ⟨n1, 0⟩ fun (x44 : T_u8b) =>
  call Tryz.prog N_bbr_Model_recover [.lf (.ptr d), .agg (Ks.mk K_u8b x44), .lf (.bool r7)] [] fun (r45 : Unit) =>
  ld K_u8b ⟨n1, 0⟩ fun (x46 : T_u8b) =>
  call Tryz.prog N_bbr_Model_window [.lf (.ptr d), .agg (Ks.mk K_u8b x46), .lf (.int .u64 a)] [] fun (r47 : Unit) =>
  call Tryz.prog N_bbr_Model_State [.lf (.ptr d)] [.agg K_i2u6b2] fun (r48 : T_i2u6b2) =>
  st ⟨n2, 0⟩ (Ks.mk K_i2u6b2 r48) <|
  ld K_i2u6b2 ⟨n2, 0⟩ fun (x49 : T_i2u6b2) =>
  R x49
theorem sem_bbr_Model_Update (d : Option Pt) (o : T_u8b) (a : Int) (R : Rs.T [.agg K_i2u6b2] → WP) : Same (semF Tryz.prog Tryz.f101 (.s .o (.s (.s .o (.s (.s .o .o) .o)) (.s (.d (.f 0 [0] (.f 4 [4] (.f 1 [11] (.f 2 [12] (.f 3 [13] (.w 5 [14, 15] (.w 6 [16] .fin)))))))) (.s (.d (.f 0 [0] (.f 4 [7] (.f 5 [4] (.f 1 [17] (.f 2 [18] (.f 3 [19] (.w 6 [20, 21, 22] .fin)))))))) (.s .o (.j [] (.j [(36, .lf .bool)] .o (.s (.d (.f 0 [0] (.f 4 [4] (.f 6 [0] (.f 11 [4] (.f 13 [4] (.f 15 [0] (.f 17 [0] (.f 1 [37] (.f 5 [41] (.f 7 [43] (.f 12 [48] (.f 14 [50] (.f 2 [38] (.f 8 [44] (.f 3 [39] (.f 9 [45] (.w 10 [46] (.w 16 [52] (.w 18 [54] (.w 19 [40, 42, 47, 49, 51, 53, 55] .fin))))))))))))))))))))) .o)) (.s (.d (.f 0 [0] (.f 4 [7] (.f 5 [4] (.f 7 [0] (.f 1 [57] (.f 6 [62] (.f 8 [64] (.f 2 [58] (.f 9 [65] (.f 3 [59] (.f 10 [66] (.w 11 [67] (.w 12 [60, 61, 63, 68] .fin)))))))))))))) (.s .o (.s .o (.s .o (.s .o (.s .o (.s .o .o))))))))))))) [.lf (.ptr d), .agg (Ks.mk K_u8b o), .lf (.int .u64 a)] [.agg K_i2u6b2] R) (fun w => W_bbr_Model_Update d o a R w) := ⟨by kernel_rfl⟩
theorem call_bbr_Model_Update (d : Option Pt) (o : T_u8b) (a : Int) (R : Rs.T [.agg K_i2u6b2] → WP) (w : World) (h : W_bbr_Model_Update d o a R w) :
    CallX Tryz.prog N_bbr_Model_Update ([.lf (.ptr d), .agg (Ks.mk K_u8b o), .lf (.int .u64 a)].map V1.enc) w fun v w' => ∃ x, v = (retTV (Rs.mk [.agg K_i2u6b2] x)).enc ∧ R x w' :=
  callX_of_semF Tryz.func101 (by kernel_rfl) (by kernel_rfl) (sem_bbr_Model_Update d o a R) h


/-- (*canter/bbr.Model).back -/
def W_bbr_Model_back (m : Option Pt) (R : Rs.T [] → WP) : WP :=
  drw <|
  deref m fun q1 =>
  deref m fun q2 =>
  ld [.int .u64] ⟨q1.b, q1.o + 9⟩ fun (x3 : Int) =>
  ld [.int .u64] ⟨q2.b, q2.o + 10⟩ fun (x4 : Int) =>
  deref m fun q5 =>
  st ⟨q5.b, q5.o + 9⟩ [.int .u64 (if x4 > x3 then x4 else x3)] <|
  deref m fun q6 =>
  st ⟨q6.b, q6.o + 10⟩ [.int .u64 (0:Int)] <|
  R ()
theorem sem_bbr_Model_back (m : Option Pt) (R : Rs.T [] → WP) : Same (semF Tryz.prog Tryz.f167 (.d (.f 0 [0] (.f 1 [0] (.f 2 [0] (.f 6 [0] (.f 3 [4] (.f 7 [8] (.f 4 [5] (.f 8 [9] (.f 5 [6] (.f 9 [10] (.f 10 [7, 11] (.f 11 [2] (.f 12 [13] (.w 13 [12, 14] (.f 14 [3] (.f 15 [15] (.w 16 [16] .fin)))))))))))))))))) [.lf (.ptr m)] [] R) (fun w => W_bbr_Model_back m R w) := ⟨by kernel_rfl⟩
theorem call_bbr_Model_back (m : Option Pt) (R : Rs.T [] → WP) (w : World) (h : W_bbr_Model_back m R w) :
    CallX Tryz.prog N_bbr_Model_back ([.lf (.ptr m)].map V1.enc) w fun v w' => ∃ x, v = (retTV (Rs.mk [] x)).enc ∧ R x w' :=
  callX_of_semF Tryz.func167 (by kernel_rfl) (by kernel_rfl) (sem_bbr_Model_back m R) h


/-- (*canter/bbr.Model).bdp -/
def W_bbr_Model_bdp (m : Option Pt) (gain : Int) (R : Rs.T [.lf (.int .u64)] → WP) : WP :=
  drw <|
  deref m fun q1 =>
  ld [.ptr] ⟨q1.b, q1.o + 4⟩ fun (x2 : Option Pt) =>
  call Tryz.prog N_bbr_Model_bw [.lf (.ptr m)] [.lf (.int .u64)] fun (r3 : Int) =>
  chk ⟨q1.b, q1.o + 4⟩ (Ks.mk [.ptr] x2) <|
  call Tryz.prog N_probe_Probe_Best [.lf (.ptr x2)] [.lf (.int .u64)] fun (r4 : Int) =>
  call Tryz.prog N_target_Bdp [.lf (.int .u64 r3), .lf (.int .u64 r4), .lf (.int .u64 gain)] [.lf (.int .u64)] fun (r5 : Int) =>
  R r5
theorem sem_bbr_Model_bdp (m : Option Pt) (gain : Int) (R : Rs.T [.lf (.int .u64)] → WP) : Same (semF Tryz.prog Tryz.f132 (.s .o (.s (.d (.f 0 [0] (.f 2 [0] (.f 7 [1] (.f 3 [7] (.f 4 [8] (.f 5 [9] (.w 1 [5] (.w 6 [10] (.w 8 [6, 11, 12] (.w 9 [13] .fin))))))))))) .o)) [.lf (.ptr m), .lf (.int .u64 gain)] [.lf (.int .u64)] R) (fun w => W_bbr_Model_bdp m gain R w) := ⟨by kernel_rfl⟩
theorem call_bbr_Model_bdp (m : Option Pt) (gain : Int) (R : Rs.T [.lf (.int .u64)] → WP) (w : World) (h : W_bbr_Model_bdp m gain R w) :
    CallX Tryz.prog N_bbr_Model_bdp ([.lf (.ptr m), .lf (.int .u64 gain)].map V1.enc) w fun v w' => ∃ x, v = (retTV (Rs.mk [.lf (.int .u64)] x)).enc ∧ R x w' :=
  callX_of_semF Tryz.func132 (by kernel_rfl) (by kernel_rfl) (sem_bbr_Model_bdp m gain R) h


/-- (*canter/bbr.Model).bw -/
def W_bbr_Model_bw (m : Option Pt) (R : Rs.T [.lf (.int .u64)] → WP) : WP :=
  deref m fun q1 =>
  ld [.ptr] ⟨q1.b, q1.o + 5⟩ fun (x2 : Option Pt) =>
  call Tryz.prog N_policer_Policer_Use [.lf (.ptr x2)] [.lf (.int .u64), .lf .bool] fun (r3 : Int × Bool) =>
  ite' r3.2 (
  R r3.1) <|
  deref m fun q4 =>
  ld [.ptr] q4 fun (x5 : Option Pt) =>
  call Tryz.prog N_winmax_Max_Best [.lf (.ptr x5)] [.lf (.int .u64)] fun (r6 : Int) =>
  R r6
theorem sem_bbr_Model_bw (m : Option Pt) (R : Rs.T [.lf (.int .u64)] → WP) : Same (semF Tryz.prog Tryz.f90 (.s .o (.s (.s .o (.s .o (.s (.s .o .o) .o))) (.s .o .o))) [.lf (.ptr m)] [.lf (.int .u64)] R) (fun w => W_bbr_Model_bw m R w) := ⟨by kernel_rfl⟩
theorem call_bbr_Model_bw (m : Option Pt) (R : Rs.T [.lf (.int .u64)] → WP) (w : World) (h : W_bbr_Model_bw m R w) :
    CallX Tryz.prog N_bbr_Model_bw ([.lf (.ptr m)].map V1.enc) w fun v w' => ∃ x, v = (retTV (Rs.mk [.lf (.int .u64)] x)).enc ∧ R x w' :=
  callX_of_semF Tryz.func90 (by kernel_rfl) (by kernel_rfl) (sem_bbr_Model_bw m R) h


/-- (*canter/bbr.Model).cruise -/
def W_bbr_Model_cruise (m : Option Pt) (now : Int) (R : Rs.T [] → WP) : WP :=
  deref m fun q1 =>
  st ⟨q1.b, q1.o + 7⟩ [.int .i64 (2:Int)] <|
  deref m fun q2 =>
  ld [.ptr] ⟨q2.b, q2.o + 3⟩ fun (x3 : Option Pt) =>
  call Tryz.prog N_cycle_Cycle_Start [.lf (.ptr x3), .lf (.int .u64 now), .lf (.int .i64 (2:Int))] [] fun (r4 : Unit) =>
  R ()
theorem sem_bbr_Model_cruise (m : Option Pt) (now : Int) (R : Rs.T [] → WP) : Same (semF Tryz.prog Tryz.f164 (.s .o .o) [.lf (.ptr m), .lf (.int .u64 now)] [] R) (fun w => W_bbr_Model_cruise m now R w) := ⟨by kernel_rfl⟩
theorem call_bbr_Model_cruise (m : Option Pt) (now : Int) (R : Rs.T [] → WP) (w : World) (h : W_bbr_Model_cruise m now R w) :
    CallX Tryz.prog N_bbr_Model_cruise ([.lf (.ptr m), .lf (.int .u64 now)].map V1.enc) w fun v w' => ∃ x, v = (retTV (Rs.mk [] x)).enc ∧ R x w' :=
  callX_of_semF Tryz.func164 (by kernel_rfl) (by kernel_rfl) (sem_bbr_Model_cruise m now R) h


/-- (*canter/bbr.Model).floor -/
def W_bbr_Model_floor (m : Option Pt) (R : Rs.T [.lf (.int .u64)] → WP) : WP :=
  deref m fun q1 =>
  ld [.int .u64] ⟨q1.b, q1.o + 6⟩ fun (x2 : Int) =>
  R (IntKind.u64.wrap ((4:Int) * x2))
theorem sem_bbr_Model_floor (m : Option Pt) (R : Rs.T [.lf (.int .u64)] → WP) : Same (semF Tryz.prog Tryz.f166 (.s .o (.s .o .o)) [.lf (.ptr m)] [.lf (.int .u64)] R) (fun w => W_bbr_Model_floor m R w) := ⟨by kernel_rfl⟩
theorem call_bbr_Model_floor (m : Option Pt) (R : Rs.T [.lf (.int .u64)] → WP) (w : World) (h : W_bbr_Model_floor m R w) :
    CallX Tryz.prog N_bbr_Model_floor ([.lf (.ptr m)].map V1.enc) w fun v w' => ∃ x, v = (retTV (Rs.mk [.lf (.int .u64)] x)).enc ∧ R x w' :=
  callX_of_semF Tryz.func166 (by kernel_rfl) (by kernel_rfl) (sem_bbr_Model_floor m R) h


/-- (*canter/bbr.Model).gain -/
def W_bbr_Model_gain (m : Option Pt) (R : Rs.T [.lf (.int .u64)] → WP) : WP :=
  deref m fun q1 =>
  ld [.int .i64] ⟨q1.b, q1.o + 7⟩ fun (x2 : Int) =>
  ite' (x2 == (0:Int)) (
  R (739:Int)) <|
  deref m fun q3 =>
  ld [.int .i64] ⟨q3.b, q3.o + 7⟩ fun (x4 : Int) =>
  ite' (x4 == (1:Int)) (
  R (88:Int)) <|
  join [.bool] (fun J5 =>
  deref m fun q7 =>
  ld [.int .i64] ⟨q7.b, q7.o + 7⟩ fun (x8 : Int) =>
  ite' (x8 == (2:Int)) (
  call Tryz.prog N_bbr_Model_policed [.lf (.ptr m)] [.lf .bool] fun (r9 : Bool) =>
  J5 (!r9)) <|
  J5 false) fun (y6 : Bool) =>
  ite' y6 (
  deref m fun q10 =>
  ld [.ptr] ⟨q10.b, q10.o + 3⟩ fun (x11 : Option Pt) =>
  call Tryz.prog N_cycle_Cycle_Gain [.lf (.ptr x11)] [.lf (.int .u64)] fun (r12 : Int) =>
  R r12) <|
  R (256:Int)
theorem sem_bbr_Model_gain (m : Option Pt) (R : Rs.T [.lf (.int .u64)] → WP) : Same (semF Tryz.prog Tryz.f92 (.s .o (.s (.b (.s .o (.s (.s .o .o) (.s .o (.s (.s .o .o) (.j [(15, .lf .bool)] .o (.s (.s .o .o) .o))))))) (.s .o .o))) [.lf (.ptr m)] [.lf (.int .u64)] R) (fun w => W_bbr_Model_gain m R w) := ⟨by kernel_rfl⟩
theorem call_bbr_Model_gain (m : Option Pt) (R : Rs.T [.lf (.int .u64)] → WP) (w : World) (h : W_bbr_Model_gain m R w) :
    CallX Tryz.prog N_bbr_Model_gain ([.lf (.ptr m)].map V1.enc) w fun v w' => ∃ x, v = (retTV (Rs.mk [.lf (.int .u64)] x)).enc ∧ R x w' :=
  callX_of_semF Tryz.func92 (by kernel_rfl) (by kernel_rfl) (sem_bbr_Model_gain m R) h


/-- (*canter/bbr.Model).look -/
def W_bbr_Model_look (m : Option Pt) (s : T_u8b) (start : Bool) (R : Rs.T [] → WP) : WP :=
  new (Ks.mk K_u8b s) fun n1 =>
  drw <|
  deref m fun q2 =>
  ld [.int .u64] ⟨n1, 0⟩ fun (x3 : Int) =>
  ld [.int .u64] ⟨n1, 4⟩ fun (x4 : Int) =>
  ld [.int .u64] ⟨n1, 7⟩ fun (x5 : Int) =>
  ld [.ptr] ⟨q2.b, q2.o + 4⟩ fun (x6 : Option Pt) =>
  call Tryz.prog N_bbr_Model_floor [.lf (.ptr m)] [.lf (.int .u64)] fun (r7 : Int) =>
  chk ⟨q2.b, q2.o + 4⟩ (Ks.mk [.ptr] x6) <|
  chk ⟨n1, 7⟩ (Ks.mk [.int .u64] x5) <|
  chk ⟨n1, 4⟩ (Ks.mk [.int .u64] x4) <|
  chk ⟨n1, 0⟩ (Ks.mk [.int .u64] x3) <|
  call Tryz.prog N_probe_Probe_Update [.lf (.ptr x6), .lf (.int .u64 x3), .lf (.int .u64 x4), .lf (.bool start), .lf (.int .u64 x5), .lf (.int .u64 r7)] [.lf .bool, .lf .bool] fun (r8 : Bool × Bool) =>
  ite' r8.1 (
  drw <|
  deref m fun q9 =>
  deref m fun q10 =>
  ld [.int .u64] ⟨q9.b, q9.o + 10⟩ fun (x11 : Int) =>
  ld [.int .u64] ⟨q10.b, q10.o + 9⟩ fun (x12 : Int) =>
  deref m fun q13 =>
  st ⟨q13.b, q13.o + 10⟩ [.int .u64 (if x12 > x11 then x12 else x11)] <|
  deref m fun q14 =>
  st ⟨q14.b, q14.o + 7⟩ [.int .i64 (3:Int)] <|
  R ()) <|
  ite' r8.2 (
  call Tryz.prog N_bbr_Model_back [.lf (.ptr m)] [] fun (r15 : Unit) =>
  deref m fun q16 =>
  st ⟨q16.b, q16.o + 7⟩ [.int .i64 (0:Int)] <|
  deref m fun q17 =>
  ld [.ptr] ⟨q17.b, q17.o + 2⟩ fun (x18 : Option Pt) =>
  call Tryz.prog N_pipe_Pipe_Full [.lf (.ptr x18)] [.lf .bool] fun (r19 : Bool) =>
  ite' r19 (
  ld [.int .u64] ⟨n1, 0⟩ fun (x20 : Int) =>
  call Tryz.prog N_bbr_Model_cruise [.lf (.ptr m), .lf (.int .u64 x20)] [] fun (r21 : Unit) =>
  R ()) <|
  R ()) <|
  R ()
theorem sem_bbr_Model_look (m : Option Pt) (s : T_u8b) (start : Bool) (R : Rs.T [] → WP) : Same (semF Tryz.prog Tryz.f135 (.s .o (.s (.d (.f 0 [0] (.f 4 [4] (.f 6 [4] (.f 8 [2] (.f 9 [4] (.f 11 [0] (.f 1 [9] (.f 5 [13] (.f 7 [15] (.f 10 [18] (.f 2 [10] (.f 3 [11] (.w 12 [20] (.w 13 [12, 14, 16, 17, 19, 21] (.f 14 [22] (.f 15 [8] (.f 16 [8] (.w 17 [23] (.w 18 [24] .fin)))))))))))))))))))) (.b (.s .o (.s (.d (.f 0 [0] (.f 1 [0] (.f 2 [0] (.f 6 [0] (.f 3 [29] (.f 7 [33] (.f 4 [30] (.f 8 [34] (.f 5 [31] (.f 9 [35] (.f 10 [32, 36] (.f 11 [27] (.f 12 [38] (.w 13 [37, 39] (.f 14 [28] (.f 15 [40] (.w 16 [41] .fin)))))))))))))))))) (.s .o (.s (.s .o (.s .o (.s .o (.s .o .o)))) .o))))))) [.lf (.ptr m), .agg (Ks.mk K_u8b s), .lf (.bool start)] [] R) (fun w => W_bbr_Model_look m s start R w) := ⟨by kernel_rfl⟩
theorem call_bbr_Model_look (m : Option Pt) (s : T_u8b) (start : Bool) (R : Rs.T [] → WP) (w : World) (h : W_bbr_Model_look m s start R w) :
    CallX Tryz.prog N_bbr_Model_look ([.lf (.ptr m), .agg (Ks.mk K_u8b s), .lf (.bool start)].map V1.enc) w fun v w' => ∃ x, v = (retTV (Rs.mk [] x)).enc ∧ R x w' :=
  callX_of_semF Tryz.func135 (by kernel_rfl) (by kernel_rfl) (sem_bbr_Model_look m s start R) h


/-- (*canter/bbr.Model).measure -/
def W_bbr_Model_measure (m : Option Pt) (s : T_u8b) (R : Rs.T [] → WP) : WP :=
  new (Ks.mk K_u8b s) fun n1 =>
  join [] (fun J2 =>
  ld [.int .u64] ⟨n1, 5⟩ fun (x4 : Int) =>
  ite' (x4 == (0:Int)) (
  R ()) <|
  ld [.int .u64] ⟨n1, 3⟩ fun (x5 : Int) =>
  ite' (x5 == (0:Int)) (
  R ()) <|
  J2 ()) fun (y3 : Unit) =>
  drw <|
  ld [.int .u64] ⟨n1, 1⟩ fun (x6 : Int) =>
  ld [.int .u64] ⟨n1, 2⟩ fun (x7 : Int) =>
  ld [.int .u64] ⟨n1, 3⟩ fun (x8 : Int) =>
  call Tryz.prog N_sat_Sub [.lf (.int .u64 x6), .lf (.int .u64 x7)] [.lf (.int .u64)] fun (r9 : Int) =>
  chk ⟨n1, 3⟩ (Ks.mk [.int .u64] x8) <|
  call Tryz.prog N_wide_MulDiv [.lf (.int .u64 r9), .lf (.int .u64 (1000000000:Int)), .lf (.int .u64 x8)] [.lf (.int .u64)] fun (r10 : Int) =>
  join [.bool] (fun J11 =>
  ld [.bool] ⟨n1, 8⟩ fun (x13 : Bool) =>
  ite' (!x13) (
  J11 true) <|
  deref m fun q14 =>
  ld [.ptr] q14 fun (x15 : Option Pt) =>
  call Tryz.prog N_winmax_Max_Best [.lf (.ptr x15)] [.lf (.int .u64)] fun (r16 : Int) =>
  J11 (decide (r10 ≥ r16))) fun (y12 : Bool) =>
  ite' y12 (
  drw <|
  deref m fun q17 =>
  deref m fun q18 =>
  ld [.ptr] q17 fun (x19 : Option Pt) =>
  ld [.ptr] ⟨q18.b, q18.o + 1⟩ fun (x20 : Option Pt) =>
  call Tryz.prog N_rounds_Rounds_Count [.lf (.ptr x20)] [.lf (.int .u64)] fun (r21 : Int) =>
  chk q17 (Ks.mk [.ptr] x19) <|
  call Tryz.prog N_winmax_Max_Update [.lf (.ptr x19), .lf (.int .u64 r21), .lf (.int .u64 r10)] [.lf (.int .u64)] fun (r22 : Int) =>
  R ()) <|
  R ()
theorem sem_bbr_Model_measure (m : Option Pt) (s : T_u8b) (R : Rs.T [] → WP) : Same (semF Tryz.prog Tryz.f130 (.s .o (.j [] (.s .o (.s .o .o)) (.s (.d (.f 0 [3] (.f 2 [3] (.f 5 [3] (.f 1 [13] (.f 3 [15] (.f 6 [18] (.w 4 [14, 16] (.w 7 [17, 19] (.w 8 [20] .fin)))))))))) (.j [(32, .lf .bool)] .o (.s (.d (.f 0 [0] (.f 4 [0] (.f 9 [4] (.f 1 [33] (.f 5 [37] (.f 2 [34] (.f 6 [38] (.f 3 [35] (.f 7 [39] (.w 8 [40] (.w 10 [36, 41, 42] .fin)))))))))))) .o))))) [.lf (.ptr m), .agg (Ks.mk K_u8b s)] [] R) (fun w => W_bbr_Model_measure m s R w) := ⟨by kernel_rfl⟩
theorem call_bbr_Model_measure (m : Option Pt) (s : T_u8b) (R : Rs.T [] → WP) (w : World) (h : W_bbr_Model_measure m s R w) :
    CallX Tryz.prog N_bbr_Model_measure ([.lf (.ptr m), .agg (Ks.mk K_u8b s)].map V1.enc) w fun v w' => ∃ x, v = (retTV (Rs.mk [] x)).enc ∧ R x w' :=
  callX_of_semF Tryz.func130 (by kernel_rfl) (by kernel_rfl) (sem_bbr_Model_measure m s R) h


/-- (*canter/bbr.Model).modes -/
def W_bbr_Model_modes (m : Option Pt) (s : T_u8b) (R : Rs.T [] → WP) : WP :=
  new (Ks.mk K_u8b s) fun n1 =>
  loop [] () fun J2 (y3 : Unit) =>
  join [.bool] (fun J4 =>
  deref m fun q6 =>
  ld [.int .i64] ⟨q6.b, q6.o + 7⟩ fun (x7 : Int) =>
  ite' (x7 == (0:Int)) (
  deref m fun q8 =>
  ld [.ptr] ⟨q8.b, q8.o + 2⟩ fun (x9 : Option Pt) =>
  call Tryz.prog N_pipe_Pipe_Full [.lf (.ptr x9)] [.lf .bool] fun (r10 : Bool) =>
  J4 r10) <|
  J4 false) fun (y5 : Bool) =>
  ite' y5 (
  deref m fun q11 =>
  st ⟨q11.b, q11.o + 7⟩ [.int .i64 (1:Int)] <|
  J2 ()) <|
  join [.bool] (fun J12 =>
  drw <|
  deref m fun q14 =>
  ld [.int .i64] ⟨q14.b, q14.o + 7⟩ fun (x15 : Int) =>
  ite' (x15 == (1:Int)) (
  deref m fun q16 =>
  ld [.ptr] ⟨q16.b, q16.o + 4⟩ fun (x17 : Option Pt) =>
  call Tryz.prog N_probe_Probe_Best [.lf (.ptr x17)] [.lf (.int .u64)] fun (r18 : Int) =>
  ite' (decide (r18 > (0:Int))) (
  ld [.int .u64] ⟨n1, 7⟩ fun (x19 : Int) =>
  call Tryz.prog N_bbr_Model_bdp [.lf (.ptr m), .lf (.int .u64 (256:Int))] [.lf (.int .u64)] fun (r20 : Int) =>
  chk ⟨n1, 7⟩ (Ks.mk [.int .u64] x19) <|
  J12 (decide (x19 ≤ r20))) <|
  J12 false) <|
  J12 false) fun (y13 : Bool) =>
  ite' y13 (
  ld [.int .u64] ⟨n1, 0⟩ fun (x21 : Int) =>
  call Tryz.prog N_bbr_Model_cruise [.lf (.ptr m), .lf (.int .u64 x21)] [] fun (r22 : Unit) =>
  R ()) <|
  R ()
theorem sem_bbr_Model_modes (m : Option Pt) (s : T_u8b) (R : Rs.T [] → WP) : Same (semF Tryz.prog Tryz.f134 (.s .o (.s .o (.b (.l [] (.b (.b (.j [(4, .lf .bool)] .o (.s .o (.j [(20, .lf .bool)] (.d (.f 0 [0] (.f 1 [21] (.f 2 [22] (.f 3 [23] (.f 4 [24] (.f 5 [25] (.f 6 [0, 26] (.f 7 [26, 27] (.f 8 [26, 28] (.f 9 [26, 29] (.w 10 [26, 30] (.f 11 [26, 31] (.f 12 [26, 32] (.f 13 [33] (.f 14 [3, 34] (.f 16 [0, 34] (.f 15 [34, 35] (.w 17 [34, 37] (.f 18 [34, 36, 38] (.f 19 [34, 39] (.w 20 [40] .fin)))))))))))))))))))))) (.s (.s .o .o) .o)))))))))) [.lf (.ptr m), .agg (Ks.mk K_u8b s)] [] R) (fun w => W_bbr_Model_modes m s R w) := ⟨by kernel_rfl⟩
theorem call_bbr_Model_modes (m : Option Pt) (s : T_u8b) (R : Rs.T [] → WP) (w : World) (h : W_bbr_Model_modes m s R w) :
    CallX Tryz.prog N_bbr_Model_modes ([.lf (.ptr m), .agg (Ks.mk K_u8b s)].map V1.enc) w fun v w' => ∃ x, v = (retTV (Rs.mk [] x)).enc ∧ R x w' :=
  callX_of_semF Tryz.func134 (by kernel_rfl) (by kernel_rfl) (sem_bbr_Model_modes m s R) h


/-- (*canter/bbr.Model).pace -/
def W_bbr_Model_pace (m : Option Pt) (R : Rs.T [] → WP) : WP :=
  call Tryz.prog N_bbr_Model_bw [.lf (.ptr m)] [.lf (.int .u64)] fun (r1 : Int) =>
  ite' (r1 == (0:Int)) (
  R ()) <|
  call Tryz.prog N_bbr_Model_bw [.lf (.ptr m)] [.lf (.int .u64)] fun (r2 : Int) =>
  call Tryz.prog N_bbr_Model_gain [.lf (.ptr m)] [.lf (.int .u64)] fun (r3 : Int) =>
  call Tryz.prog N_target_Rate [.lf (.int .u64 r2), .lf (.int .u64 r3)] [.lf (.int .u64)] fun (r4 : Int) =>
  join [.bool] (fun J5 =>
  deref m fun q7 =>
  ld [.ptr] ⟨q7.b, q7.o + 2⟩ fun (x8 : Option Pt) =>
  call Tryz.prog N_pipe_Pipe_Full [.lf (.ptr x8)] [.lf .bool] fun (r9 : Bool) =>
  ite' r9 (
  J5 true) <|
  deref m fun q10 =>
  ld [.int .u64] ⟨q10.b, q10.o + 8⟩ fun (x11 : Int) =>
  J5 (decide ((if (1:Int) > r4 then (1:Int) else r4) > x11))) fun (y6 : Bool) =>
  ite' y6 (
  deref m fun q12 =>
  st ⟨q12.b, q12.o + 8⟩ [.int .u64 (if (1:Int) > r4 then (1:Int) else r4)] <|
  R ()) <|
  R ()
theorem sem_bbr_Model_pace (m : Option Pt) (R : Rs.T [] → WP) : Same (semF Tryz.prog Tryz.f136 (.s (.s .o (.s .o .o)) (.s .o (.j [(24, .lf .bool)] .o (.s .o .o)))) [.lf (.ptr m)] [] R) (fun w => W_bbr_Model_pace m R w) := ⟨by kernel_rfl⟩
theorem call_bbr_Model_pace (m : Option Pt) (R : Rs.T [] → WP) (w : World) (h : W_bbr_Model_pace m R w) :
    CallX Tryz.prog N_bbr_Model_pace ([.lf (.ptr m)].map V1.enc) w fun v w' => ∃ x, v = (retTV (Rs.mk [] x)).enc ∧ R x w' :=
  callX_of_semF Tryz.func136 (by kernel_rfl) (by kernel_rfl) (sem_bbr_Model_pace m R) h


/-- (*canter/bbr.Model).policed -/
def W_bbr_Model_policed (m : Option Pt) (R : Rs.T [.lf .bool] → WP) : WP :=
  deref m fun q1 =>
  ld [.ptr] ⟨q1.b, q1.o + 5⟩ fun (x2 : Option Pt) =>
  call Tryz.prog N_policer_Policer_Use [.lf (.ptr x2)] [.lf (.int .u64), .lf .bool] fun (r3 : Int × Bool) =>
  R r3.2
theorem sem_bbr_Model_policed (m : Option Pt) (R : Rs.T [.lf .bool] → WP) : Same (semF Tryz.prog Tryz.f96 (.s .o (.s .o (.s .o .o))) [.lf (.ptr m)] [.lf .bool] R) (fun w => W_bbr_Model_policed m R w) := ⟨by kernel_rfl⟩
theorem call_bbr_Model_policed (m : Option Pt) (R : Rs.T [.lf .bool] → WP) (w : World) (h : W_bbr_Model_policed m R w) :
    CallX Tryz.prog N_bbr_Model_policed ([.lf (.ptr m)].map V1.enc) w fun v w' => ∃ x, v = (retTV (Rs.mk [.lf .bool] x)).enc ∧ R x w' :=
  callX_of_semF Tryz.func96 (by kernel_rfl) (by kernel_rfl) (sem_bbr_Model_policed m R) h


/-- (*canter/bbr.Model).recover -/
def W_bbr_Model_recover (d : Option Pt) (o : T_u8b) (a : Bool) (R : Rs.T [] → WP) : WP :=
  new (Ks.mk K_u8b o) fun n1 =>
  join [.bool] (fun J2 =>
  ld [.int .u64] ⟨n1, 6⟩ fun (x4 : Int) =>
  ite' (decide (x4 > (0:Int))) (
  deref d fun q5 =>
  ld [.bool] ⟨q5.b, q5.o + 11⟩ fun (x6 : Bool) =>
  J2 (!x6)) <|
  J2 false) fun (y3 : Bool) =>
  ite' y3 (
  ld [.int .u64] ⟨n1, 1⟩ fun (x7 : Int) =>
  ld [.int .u64] ⟨n1, 7⟩ fun (x8 : Int) =>
  call Tryz.prog N_sat_Add [.lf (.int .u64 x7), .lf (.int .u64 x8)] [.lf (.int .u64)] fun (r9 : Int) =>
  deref d fun q10 =>
  st ⟨q10.b, q10.o + 11⟩ [.bool true] <|
  deref d fun q11 =>
  st ⟨q11.b, q11.o + 12⟩ [.bool true] <|
  deref d fun q12 =>
  st ⟨q12.b, q12.o + 13⟩ [.int .u64 r9] <|
  drw <|
  deref d fun q13 =>
  deref d fun q14 =>
  ld [.int .u64] ⟨q13.b, q13.o + 10⟩ fun (x15 : Int) =>
  ld [.int .u64] ⟨q14.b, q14.o + 9⟩ fun (x16 : Int) =>
  deref d fun q17 =>
  st ⟨q17.b, q17.o + 10⟩ [.int .u64 (if x16 > x15 then x16 else x15)] <|
  R ()) <|
  deref d fun q18 =>
  ld [.bool] ⟨q18.b, q18.o + 11⟩ fun (x19 : Bool) =>
  ite' x19 (
  deref d fun q20 =>
  ld [.bool] ⟨q20.b, q20.o + 12⟩ fun (x21 : Bool) =>
  deref d fun q22 =>
  st ⟨q22.b, q22.o + 12⟩ [.bool (x21 && (!a))] <|
  drw <|
  ld [.int .u64] ⟨n1, 1⟩ fun (x23 : Int) =>
  deref d fun q24 =>
  ld [.int .u64] ⟨q24.b, q24.o + 13⟩ fun (x25 : Int) =>
  ite' (decide (x23 < x25)) (
  R ()) <|
  deref d fun q26 =>
  st ⟨q26.b, q26.o + 11⟩ [.bool false] <|
  deref d fun q27 =>
  st ⟨q27.b, q27.o + 12⟩ [.bool false] <|
  deref d fun q28 =>
  ld [.int .i64] ⟨q28.b, q28.o + 7⟩ fun (x29 : Int) =>
  ite' (x29 != (3:Int)) (
  call Tryz.prog N_bbr_Model_back [.lf (.ptr d)] [] fun (r30 : Unit) =>
  R ()) <|
  R ()) <|
  R ()
theorem sem_bbr_Model_recover (d : Option Pt) (o : T_u8b) (a : Bool) (R : Rs.T [] → WP) : Same (semF Tryz.prog Tryz.f137 (.s .o (.b (.j [(6, .lf .bool)] .o (.s (.s .o (.d (.f 0 [0] (.f 1 [0] (.f 5 [0] (.f 2 [32] (.f 6 [36] (.f 3 [33] (.f 7 [37] (.f 4 [34] (.f 8 [38] (.f 9 [35, 39] (.f 10 [31] (.f 11 [41] (.w 12 [40, 42] .fin))))))))))))))) (.s .o (.s (.s .o (.s (.s (.d (.f 0 [4] (.f 2 [0] (.f 1 [59] (.f 3 [61] (.f 4 [62] (.f 5 [63] (.f 6 [60, 64] .fin)))))))) (.s .o .o)) (.s .o (.s .o (.s .o .o))))) .o)))))) [.lf (.ptr d), .agg (Ks.mk K_u8b o), .lf (.bool a)] [] R) (fun w => W_bbr_Model_recover d o a R w) := ⟨by kernel_rfl⟩
theorem call_bbr_Model_recover (d : Option Pt) (o : T_u8b) (a : Bool) (R : Rs.T [] → WP) (w : World) (h : W_bbr_Model_recover d o a R w) :
    CallX Tryz.prog N_bbr_Model_recover ([.lf (.ptr d), .agg (Ks.mk K_u8b o), .lf (.bool a)].map V1.enc) w fun v w' => ∃ x, v = (retTV (Rs.mk [] x)).enc ∧ R x w' :=
  callX_of_semF Tryz.func137 (by kernel_rfl) (by kernel_rfl) (sem_bbr_Model_recover d o a R) h


/-- (*canter/bbr.Model).wideGain -/
def W_bbr_Model_wideGain (m : Option Pt) (R : Rs.T [.lf (.int .u64)] → WP) : WP :=
  deref m fun q1 =>
  ld [.int .i64] ⟨q1.b, q1.o + 7⟩ fun (x2 : Int) =>
  ite' (x2 == (2:Int)) (
  R (512:Int)) <|
  ite' (x2 == (3:Int)) (
  R (256:Int)) <|
  R (739:Int)
theorem sem_bbr_Model_wideGain (m : Option Pt) (R : Rs.T [.lf (.int .u64)] → WP) : Same (semF Tryz.prog Tryz.f169 (.s .o (.s (.s .o (.b (.s .o (.s (.s .o .o) (.s .o (.s (.s .o .o) .o)))))) (.s .o .o))) [.lf (.ptr m)] [.lf (.int .u64)] R) (fun w => W_bbr_Model_wideGain m R w) := ⟨by kernel_rfl⟩
theorem call_bbr_Model_wideGain (m : Option Pt) (R : Rs.T [.lf (.int .u64)] → WP) (w : World) (h : W_bbr_Model_wideGain m R w) :
    CallX Tryz.prog N_bbr_Model_wideGain ([.lf (.ptr m)].map V1.enc) w fun v w' => ∃ x, v = (retTV (Rs.mk [.lf (.int .u64)] x)).enc ∧ R x w' :=
  callX_of_semF Tryz.func169 (by kernel_rfl) (by kernel_rfl) (sem_bbr_Model_wideGain m R) h


/-- (*canter/bbr.Model).window -/
def W_bbr_Model_window (d : Option Pt) (o : T_u8b) (a : Int) (R : Rs.T [] → WP) : WP :=
  new (Ks.mk K_u8b o) fun n1 =>
  drw <|
  deref d fun q2 =>
  ld [.int .u64] ⟨n1, 6⟩ fun (x3 : Int) =>
  deref d fun q4 =>
  ld [.int .u64] ⟨q2.b, q2.o + 9⟩ fun (x5 : Int) =>
  ld [.int .u64] ⟨q4.b, q4.o + 6⟩ fun (x6 : Int) =>
  call Tryz.prog N_sat_Sub [.lf (.int .u64 x5), .lf (.int .u64 x3)] [.lf (.int .u64)] fun (r7 : Int) =>
  chk ⟨q4.b, q4.o + 6⟩ (Ks.mk [.int .u64] x6) <|
  deref d fun q8 =>
  st ⟨q8.b, q8.o + 9⟩ [.int .u64 (if x6 > r7 then x6 else r7)] <|
  join [] (fun J9 =>
  deref d fun q11 =>
  ld [.bool] ⟨q11.b, q11.o + 12⟩ fun (x12 : Bool) =>
  ite' x12 (
  drw <|
  deref d fun q13 =>
  ld [.int .u64] ⟨n1, 7⟩ fun (x14 : Int) =>
  ld [.int .u64] ⟨n1, 5⟩ fun (x15 : Int) =>
  ld [.int .u64] ⟨q13.b, q13.o + 9⟩ fun (x16 : Int) =>
  call Tryz.prog N_sat_Add [.lf (.int .u64 x14), .lf (.int .u64 x15)] [.lf (.int .u64)] fun (r17 : Int) =>
  chk ⟨q13.b, q13.o + 9⟩ (Ks.mk [.int .u64] x16) <|
  deref d fun q18 =>
  st ⟨q18.b, q18.o + 9⟩ [.int .u64 (if r17 > x16 then r17 else x16)] <|
  J9 ()) <|
  ld [.int .u64] ⟨n1, 5⟩ fun (x19 : Int) =>
  ite' (decide (x19 > (0:Int))) (
  drw <|
  deref d fun q20 =>
  deref d fun q21 =>
  ld [.ptr] ⟨q20.b, q20.o + 4⟩ fun (x22 : Option Pt) =>
  ld [.int .u64] ⟨q21.b, q21.o + 6⟩ fun (x23 : Int) =>
  call Tryz.prog N_bbr_Model_bw [.lf (.ptr d)] [.lf (.int .u64)] fun (r24 : Int) =>
  chk ⟨q21.b, q21.o + 6⟩ (Ks.mk [.int .u64] x23) <|
  chk ⟨q20.b, q20.o + 4⟩ (Ks.mk [.ptr] x22) <|
  call Tryz.prog N_probe_Probe_Best [.lf (.ptr x22)] [.lf (.int .u64)] fun (r25 : Int) =>
  chk ⟨q21.b, q21.o + 6⟩ (Ks.mk [.int .u64] x23) <|
  call Tryz.prog N_bbr_Model_wideGain [.lf (.ptr d)] [.lf (.int .u64)] fun (r26 : Int) =>
  chk ⟨q21.b, q21.o + 6⟩ (Ks.mk [.int .u64] x23) <|
  call Tryz.prog N_target_Window [.lf (.int .u64 r24), .lf (.int .u64 r25), .lf (.int .u64 r26), .lf (.int .u64 a), .lf (.int .u64 x23)] [.lf (.int .u64)] fun (r27 : Int) =>
  deref d fun q28 =>
  ld [.ptr] ⟨q28.b, q28.o + 2⟩ fun (x29 : Option Pt) =>
  call Tryz.prog N_pipe_Pipe_Full [.lf (.ptr x29)] [.lf .bool] fun (r30 : Bool) =>
  ite' r30 (
  drw <|
  deref d fun q31 =>
  ld [.int .u64] ⟨n1, 5⟩ fun (x32 : Int) =>
  ld [.int .u64] ⟨q31.b, q31.o + 9⟩ fun (x33 : Int) =>
  call Tryz.prog N_sat_Add [.lf (.int .u64 x33), .lf (.int .u64 x32)] [.lf (.int .u64)] fun (r34 : Int) =>
  deref d fun q35 =>
  st ⟨q35.b, q35.o + 9⟩ [.int .u64 (if r27 < r34 then r27 else r34)] <|
  J9 ()) <|
  join [.bool] (fun J36 =>
  drw <|
  deref d fun q38 =>
  ld [.int .u64] ⟨q38.b, q38.o + 9⟩ fun (x39 : Int) =>
  ite' (decide (x39 < r27)) (
  J36 true) <|
  ld [.int .u64] ⟨n1, 1⟩ fun (x40 : Int) =>
  deref d fun q41 =>
  ld [.int .u64] ⟨q41.b, q41.o + 6⟩ fun (x42 : Int) =>
  J36 (decide (x40 < (IntKind.u64.wrap ((10:Int) * x42))))) fun (y37 : Bool) =>
  ite' y37 (
  drw <|
  deref d fun q43 =>
  ld [.int .u64] ⟨n1, 5⟩ fun (x44 : Int) =>
  ld [.int .u64] ⟨q43.b, q43.o + 9⟩ fun (x45 : Int) =>
  call Tryz.prog N_sat_Add [.lf (.int .u64 x45), .lf (.int .u64 x44)] [.lf (.int .u64)] fun (r46 : Int) =>
  deref d fun q47 =>
  st ⟨q47.b, q47.o + 9⟩ [.int .u64 r46] <|
  J9 ()) <|
  J9 ()) <|
  J9 ()) fun (y10 : Unit) =>
  drw <|
  deref d fun q48 =>
  ld [.int .u64] ⟨q48.b, q48.o + 9⟩ fun (x49 : Int) =>
  call Tryz.prog N_bbr_Model_floor [.lf (.ptr d)] [.lf (.int .u64)] fun (r50 : Int) =>
  chk ⟨q48.b, q48.o + 9⟩ (Ks.mk [.int .u64] x49) <|
  deref d fun q51 =>
  st ⟨q51.b, q51.o + 9⟩ [.int .u64 (if r50 > x49 then r50 else x49)] <|
  deref d fun q52 =>
  ld [.int .i64] ⟨q52.b, q52.o + 7⟩ fun (x53 : Int) =>
  ite' (x53 == (3:Int)) (
  call Tryz.prog N_bbr_Model_floor [.lf (.ptr d)] [.lf (.int .u64)] fun (r54 : Int) =>
  deref d fun q55 =>
  st ⟨q55.b, q55.o + 9⟩ [.int .u64 r54] <|
  R ()) <|
  R ()
theorem sem_bbr_Model_window (d : Option Pt) (o : T_u8b) (a : Int) (R : Rs.T [] → WP) : Same (semF Tryz.prog Tryz.f138 (.s .o (.s (.d (.f 0 [0] (.f 1 [0] (.f 5 [4] (.f 8 [0] (.f 2 [8] (.f 6 [12] (.f 9 [15] (.f 3 [9] (.f 10 [16] (.f 4 [10] (.f 11 [17] (.w 7 [11, 13] (.f 12 [14, 18] (.f 13 [7] (.f 14 [20] (.w 15 [19, 21] .fin))))))))))))))))) (.j [] (.s .o (.s (.d (.f 0 [0] (.f 1 [0] (.f 5 [4] (.f 7 [4] (.f 2 [27] (.f 6 [31] (.f 8 [33] (.f 3 [28] (.f 4 [29] (.w 9 [32, 34] (.f 10 [30, 35] (.f 11 [26] (.f 12 [37] (.w 13 [36, 38] .fin))))))))))))))) (.s .o (.s (.s (.d (.f 0 [0] (.f 2 [0] (.f 7 [0] (.f 9 [2] (.f 10 [0] (.f 3 [44] (.f 11 [52] (.f 4 [45] (.f 12 [53] (.f 5 [46] (.f 13 [54] (.w 1 [42] (.w 6 [47] (.w 8 [49] (.w 14 [43, 48, 50, 51, 55] (.w 15 [56] .fin))))))))))))))))) (.s .o (.s (.d (.f 0 [0] (.f 1 [0] (.f 5 [4] (.f 8 [6] (.f 2 [63] (.f 6 [67] (.f 3 [64] (.f 4 [65] (.w 7 [66, 68] (.f 9 [69, 70] (.f 10 [62] (.f 11 [72] (.w 12 [71, 73] .fin)))))))))))))) (.j [(89, .lf .bool)] (.d (.f 0 [0] (.f 4 [6] (.f 1 [74] (.f 2 [75] (.f 3 [76] (.f 5 [77, 78] (.f 6 [79] (.f 7 [4, 80] (.f 9 [0, 80] (.f 8 [80, 81] (.f 10 [80, 83] (.f 11 [80, 84] (.f 12 [80, 85] (.f 13 [80, 86] (.f 14 [80, 82, 87] (.f 15 [80, 88] .fin))))))))))))))))) (.s (.d (.f 0 [0] (.f 1 [0] (.f 5 [4] (.f 2 [91] (.f 6 [95] (.f 3 [92] (.f 4 [93] (.w 7 [94, 96] (.f 8 [90] (.f 9 [98] (.w 10 [97, 99] .fin)))))))))))) .o))))) .o)))) (.s (.d (.f 0 [0] (.f 1 [0] (.f 5 [0] (.f 2 [101] (.f 3 [102] (.f 4 [103] (.w 6 [105] (.f 7 [104, 106] (.f 8 [100] (.f 9 [108] (.w 10 [107, 109] .fin)))))))))))) (.s .o (.s .o .o)))))) [.lf (.ptr d), .agg (Ks.mk K_u8b o), .lf (.int .u64 a)] [] R) (fun w => W_bbr_Model_window d o a R w) := ⟨by kernel_rfl⟩
theorem call_bbr_Model_window (d : Option Pt) (o : T_u8b) (a : Int) (R : Rs.T [] → WP) (w : World) (h : W_bbr_Model_window d o a R w) :
    CallX Tryz.prog N_bbr_Model_window ([.lf (.ptr d), .agg (Ks.mk K_u8b o), .lf (.int .u64 a)].map V1.enc) w fun v w' => ∃ x, v = (retTV (Rs.mk [] x)).enc ∧ R x w' :=
  callX_of_semF Tryz.func138 (by kernel_rfl) (by kernel_rfl) (sem_bbr_Model_window d o a R) h


/-- canter/bbr.New -/
def W_bbr_New (mss : Int) (R : Rs.T [.lf .ptr] → WP) : WP :=
  call Tryz.prog N_winmax_New [.lf (.int .u64 (10:Int))] [.lf .ptr] fun (r1 : Option Pt) =>
  call Tryz.prog N_rounds_New [] [.lf .ptr] fun (r2 : Option Pt) =>
  call Tryz.prog N_pipe_New [] [.lf .ptr] fun (r3 : Option Pt) =>
  call Tryz.prog N_cycle_New [] [.lf .ptr] fun (r4 : Option Pt) =>
  call Tryz.prog N_probe_New [] [.lf .ptr] fun (r5 : Option Pt) =>
  call Tryz.prog N_policer_New [] [.lf .ptr] fun (r6 : Option Pt) =>
  new [.ptr r1, .ptr r2, .ptr r3, .ptr r4, .ptr r5, .ptr r6, .int .u64 (if (9000:Int) < (if (100:Int) > mss then (100:Int) else mss) then (9000:Int) else (if (100:Int) > mss then (100:Int) else mss)), .int .i64 (0:Int), .int .u64 (0:Int), .int .u64 (0:Int), .int .u64 (0:Int), .bool false, .bool false, .int .u64 (0:Int)] fun n7 =>
  deref (some ⟨n7, 0⟩) fun q8 =>
  st ⟨q8.b, q8.o + 9⟩ [.int .u64 (IntKind.u64.wrap ((10:Int) * (if (9000:Int) < (if (100:Int) > mss then (100:Int) else mss) then (9000:Int) else (if (100:Int) > mss then (100:Int) else mss))))] <|
  deref (some ⟨n7, 0⟩) fun q9 =>
  ld [.int .u64] ⟨q9.b, q9.o + 9⟩ fun (x10 : Int) =>
  call Tryz.prog N_target_Rate [.lf (.int .u64 (IntKind.u64.wrap (x10 * (1000:Int)))), .lf (.int .u64 (739:Int))] [.lf (.int .u64)] fun (r11 : Int) =>
  deref (some ⟨n7, 0⟩) fun q12 =>
  st ⟨q12.b, q12.o + 8⟩ [.int .u64 r11] <|
  R (some ⟨n7, 0⟩)
theorem sem_bbr_New (mss : Int) (R : Rs.T [.lf .ptr] → WP) : Same (semF Tryz.prog Tryz.f37 (.s .o (.s .o (.s .o (.s .o (.s .o (.s .o .o)))))) [.lf (.int .u64 mss)] [.lf .ptr] R) (fun w => W_bbr_New mss R w) := ⟨by kernel_rfl⟩
theorem call_bbr_New (mss : Int) (R : Rs.T [.lf .ptr] → WP) (w : World) (h : W_bbr_New mss R w) :
    CallX Tryz.prog N_bbr_New ([.lf (.int .u64 mss)].map V1.enc) w fun v w' => ∃ x, v = (retTV (Rs.mk [.lf .ptr] x)).enc ∧ R x w' :=
  callX_of_semF Tryz.func37 (by kernel_rfl) (by kernel_rfl) (sem_bbr_New mss R) h


/-- (*canter/board.Board).Ack -/
def W_board_Board_Ack (d : Option Pt) (o : Int) (a : Sl) (R : Rs.T [.lf .sl, .lf (.int .u64), .lf (.int .i64)] → WP) : WP :=
  ite' d.isNone (
  R (⟨none, 0, 0⟩, (0:Int), (2:Int))) <|
  call Tryz.prog N_board_Board_may [.lf (.ptr d), .lf (.int .u64 o), .lf (.sl a)] [.lf .bool] fun (r1 : Bool) =>
  ite' (!r1) (
  R (⟨none, 0, 0⟩, (0:Int), (11:Int))) <|
  deref d fun q2 =>
  ld [.sl] q2 fun (x3 : Sl) =>
  loop K_s2i (⟨none, 0, 0⟩, ⟨none, 0, 0⟩, (0:Int)) fun J4 (y5 : T_s2i) =>
  ite' (decide (y5.2.2 < ((x3.len : Nat) : Int))) (
  idx x3 y5.2.2 9 fun q6 =>
  ld K_u6b3 q6 fun (x7 : T_u6b3) =>
  new [.int .u64 (0:Int), .int .u64 (0:Int), .int .u64 (0:Int), .int .u64 (0:Int), .int .u64 (0:Int), .int .u64 (0:Int), .bool false, .bool false, .bool false] fun n8 =>
  st ⟨n8, 0⟩ (Ks.mk K_u6b3 x7) <|
  ld [.int .u64] ⟨n8, 1⟩ fun (x9 : Int) =>
  join [.sl] (fun J10 =>
  join [.bool] (fun J12 =>
  ld [.bool] ⟨n8, 7⟩ fun (x14 : Bool) =>
  ite' (!x14) (
  ite' (decide (x9 ≤ o)) (
  J12 true) <|
  ld K_u6b3 ⟨n8, 0⟩ fun (x15 : T_u6b3) =>
  call Tryz.prog N_board_holds [.lf (.sl a), .agg (Ks.mk K_u6b3 x15)] [.lf .bool] fun (r16 : Bool) =>
  J12 r16) <|
  J12 false) fun (y13 : Bool) =>
  ite' y13 (
  ld K_u6b3 ⟨n8, 0⟩ fun (x17 : T_u6b3) =>
  new [.int .u64 x17.1, .int .u64 x17.2.1, .int .u64 x17.2.2.1, .int .u64 x17.2.2.2.1, .int .u64 x17.2.2.2.2.1, .int .u64 x17.2.2.2.2.2.1, .bool x17.2.2.2.2.2.2.1, .bool x17.2.2.2.2.2.2.2.1, .bool x17.2.2.2.2.2.2.2.2] fun n18 =>
  app 9 y5.1 ⟨some ⟨n18, 0⟩, 1, 1⟩ fun s19 =>
  st ⟨n8, 7⟩ [.bool true] <|
  st ⟨n8, 8⟩ [.bool false] <|
  J10 s19) <|
  J10 y5.1) fun (y11 : Sl) =>
  ite' (decide (x9 ≤ o)) (
  J4 (y11, y5.2.1, (IntKind.i64.wrap (y5.2.2 + (1:Int))))) <|
  ld K_u6b3 ⟨n8, 0⟩ fun (x20 : T_u6b3) =>
  new [.int .u64 x20.1, .int .u64 x20.2.1, .int .u64 x20.2.2.1, .int .u64 x20.2.2.2.1, .int .u64 x20.2.2.2.2.1, .int .u64 x20.2.2.2.2.2.1, .bool x20.2.2.2.2.2.2.1, .bool x20.2.2.2.2.2.2.2.1, .bool x20.2.2.2.2.2.2.2.2] fun n21 =>
  app 9 y5.2.1 ⟨some ⟨n21, 0⟩, 1, 1⟩ fun s22 =>
  J4 (y11, s22, (IntKind.i64.wrap (y5.2.2 + (1:Int))))) <|
  deref d fun q23 =>
  st q23 [.sl y5.2.1] <|
  call Tryz.prog N_board_Board_passed [.lf (.ptr d)] [.lf (.int .u64)] fun (r24 : Int) =>
  R (y5.1, r24, (0:Int))
theorem sem_board_Board_Ack (d : Option Pt) (o : Int) (a : Sl) (R : Rs.T [.lf .sl, .lf (.int .u64), .lf (.int .i64)] → WP) : Same (semF Tryz.prog Tryz.f47 (.s .o (.s (.b (.s .o (.s (.s .o .o) (.s .o (.s (.s .o .o) .o))))) (.s .o (.s .o (.s (.s .o (.b (.l [(9, .lf .sl), (10, .lf .sl), (28, .lf (.int .i64))] (.s .o (.s (.s .o .o) (.s (.b (.s .o (.s .o (.j [(9, .lf .sl)] (.j [(46, .lf .bool)] .o (.s (.s .o .o) .o)) (.s (.s .o (.s .o .o)) .o))))) .o)))))) (.s .o (.s .o .o))))))) [.lf (.ptr d), .lf (.int .u64 o), .lf (.sl a)] [.lf .sl, .lf (.int .u64), .lf (.int .i64)] R) (fun w => W_board_Board_Ack d o a R w) := ⟨by kernel_rfl⟩
theorem call_board_Board_Ack (d : Option Pt) (o : Int) (a : Sl) (R : Rs.T [.lf .sl, .lf (.int .u64), .lf (.int .i64)] → WP) (w : World) (h : W_board_Board_Ack d o a R w) :
    CallX Tryz.prog N_board_Board_Ack ([.lf (.ptr d), .lf (.int .u64 o), .lf (.sl a)].map V1.enc) w fun v w' => ∃ x, v = (retTV (Rs.mk [.lf .sl, .lf (.int .u64), .lf (.int .i64)] x)).enc ∧ R x w' :=
  callX_of_semF Tryz.func47 (by kernel_rfl) (by kernel_rfl) (sem_board_Board_Ack d o a R) h


/-- (*canter/board.Board).Again -/
def W_board_Board_Again (b : Option Pt) (s : T_u4b) (R : Rs.T [.agg [.int .u64, .int .u64], .lf .bool] → WP) : WP :=
  new (Ks.mk K_u4b s) fun n1 =>
  new [.int .u64 (0:Int), .int .u64 (0:Int)] fun n2 =>
  call Tryz.prog N_board_Board_Lost [.lf (.ptr b)] [.agg [.int .u64, .int .u64], .lf .bool] fun (r3 : (Int × Int) × Bool) =>
  new [.int .u64 (0:Int), .int .u64 (0:Int)] fun n4 =>
  st ⟨n4, 0⟩ (Ks.mk [.int .u64, .int .u64] r3.1) <|
  join [] (fun J5 =>
  ite' r3.2 (
  drw <|
  deref b fun q7 =>
  ld [.sl] q7 fun (x8 : Sl) =>
  call Tryz.prog N_board_Board_lost [.lf (.ptr b)] [.lf (.int .i64)] fun (r9 : Int) =>
  chk q7 (Ks.mk [.sl] x8) <|
  idx x8 r9 9 fun q10 =>
  drw <|
  ld K_u4b ⟨n1, 0⟩ fun (x11 : T_u4b) =>
  deref (some q10) fun q12 =>
  st ⟨q12.b, q12.o + 8⟩ [.bool false] <|
  chk ⟨n1, 0⟩ (Ks.mk K_u4b x11) <|
  deref (some q10) fun q13 =>
  st ⟨q13.b, q13.o + 2⟩ (Ks.mk K_u4b x11) <|
  J5 ()) <|
  J5 ()) fun (y6 : Unit) =>
  ld [.int .u64, .int .u64] ⟨n4, 0⟩ fun (x14 : Int × Int) =>
  st ⟨n2, 0⟩ (Ks.mk [.int .u64, .int .u64] x14) <|
  ld [.int .u64, .int .u64] ⟨n2, 0⟩ fun (x15 : Int × Int) =>
  R (x15, r3.2)
theorem sem_board_Board_Again (b : Option Pt) (s : T_u4b) (R : Rs.T [.agg [.int .u64, .int .u64], .lf .bool] → WP) : Same (semF Tryz.prog Tryz.f41 (.s .o (.s .o (.j [] (.s .o (.s (.s (.d (.f 0 [0] (.f 4 [0] (.f 1 [15] (.f 2 [16] (.f 3 [17] (.w 5 [19] (.f 6 [18, 20] (.w 7 [21] .fin))))))))) (.d (.f 0 [8] (.f 1 [8] (.f 2 [3] (.f 3 [22] (.f 4 [25] (.w 5 [26] (.f 6 [23] (.f 7 [27] (.w 8 [24, 28] .fin))))))))))) .o)) (.s .o .o)))) [.lf (.ptr b), .agg (Ks.mk K_u4b s)] [.agg [.int .u64, .int .u64], .lf .bool] R) (fun w => W_board_Board_Again b s R w) := ⟨by kernel_rfl⟩
theorem call_board_Board_Again (b : Option Pt) (s : T_u4b) (R : Rs.T [.agg [.int .u64, .int .u64], .lf .bool] → WP) (w : World) (h : W_board_Board_Again b s R w) :
    CallX Tryz.prog N_board_Board_Again ([.lf (.ptr b), .agg (Ks.mk K_u4b s)].map V1.enc) w fun v w' => ∃ x, v = (retTV (Rs.mk [.agg [.int .u64, .int .u64], .lf .bool] x)).enc ∧ R x w' :=
  callX_of_semF Tryz.func41 (by kernel_rfl) (by kernel_rfl) (sem_board_Board_Again b s R) h


/-- (*canter/board.Board).All -/
def W_board_Board_All (b : Option Pt) (R : Rs.T [.lf .fn] → WP) : WP :=
  new [.ptr b] fun n1 =>
  R (.mk (.func N_board_Board_All_c1) [] [V1.enc (.lf (.ptr (some ⟨n1, 0⟩)))])
theorem sem_board_Board_All (b : Option Pt) (R : Rs.T [.lf .fn] → WP) : Same (semF Tryz.prog Tryz.f103 (.s .o (.s .o .o)) [.lf (.ptr b)] [.lf .fn] R) (fun w => W_board_Board_All b R w) := ⟨by kernel_rfl⟩
theorem call_board_Board_All (b : Option Pt) (R : Rs.T [.lf .fn] → WP) (w : World) (h : W_board_Board_All b R w) :
    CallX Tryz.prog N_board_Board_All ([.lf (.ptr b)].map V1.enc) w fun v w' => ∃ x, v = (retTV (Rs.mk [.lf .fn] x)).enc ∧ R x w' :=
  callX_of_semF Tryz.func103 (by kernel_rfl) (by kernel_rfl) (sem_board_Board_All b R) h


/-- (*canter/board.Board).All$1 -/
def W_board_Board_All_c1 (yield : Fv) (c0 : Pt) (R : Rs.T [] → WP) : WP :=
  ld [.ptr] c0 fun (x1 : Option Pt) =>
  ite' x1.isNone (
  R ()) <|
  ld [.ptr] c0 fun (x2 : Option Pt) =>
  deref x2 fun q3 =>
  ld [.sl] q3 fun (x4 : Sl) =>
  loop [.int .i64] (0:Int) fun J5 (y6 : Int) =>
  ite' (decide (y6 < ((x4.len : Nat) : Int))) (
  idx x4 y6 9 fun q7 =>
  ld K_u6b3 q7 fun (x8 : T_u6b3) =>
  new [.int .u64 (0:Int), .int .u64 (0:Int), .int .u64 (0:Int), .int .u64 (0:Int), .int .u64 (0:Int), .int .u64 (0:Int), .bool false, .bool false, .bool false] fun n9 =>
  st ⟨n9, 0⟩ (Ks.mk K_u6b3 x8) <|
  ld K_u6b3 ⟨n9, 0⟩ fun (x10 : T_u6b3) =>
  callv Tryz.prog yield [.agg (Ks.mk K_u6b3 x10)] [.lf .bool] fun (r11 : Bool) =>
  ite' (!r11) (
  R ()) <|
  J5 (IntKind.i64.wrap (y6 + (1:Int)))) <|
  R ()
theorem sem_board_Board_All_c1 (yield : Fv) (c0 : Pt) (R : Rs.T [] → WP) : Same (semF Tryz.prog Tryz.f140 (.s (.s .o (.s .o .o)) (.s .o (.b (.l [(12, .lf (.int .i64))] (.s .o (.s (.s .o .o) (.s (.b (.s .o (.s .o (.s .o .o)))) .o))))))) [.lf (.fn yield), .lf (.ptr (some c0))] [] R) (fun w => W_board_Board_All_c1 yield c0 R w) := ⟨by kernel_rfl⟩
theorem call_board_Board_All_c1 (yield : Fv) (c0 : Pt) (R : Rs.T [] → WP) (w : World) (h : W_board_Board_All_c1 yield c0 R w) :
    CallX Tryz.prog N_board_Board_All_c1 ([.lf (.fn yield), .lf (.ptr (some c0))].map V1.enc) w fun v w' => ∃ x, v = (retTV (Rs.mk [] x)).enc ∧ R x w' :=
  callX_of_semF Tryz.func140 (by kernel_rfl) (by kernel_rfl) (sem_board_Board_All_c1 yield c0 R) h


/-- (*canter/board.Board).Flight -/
def W_board_Board_Flight (n0 : Nat) (b : Option Pt) (R : Rs.T [.lf (.int .u64)] → WP) : WP :=
  new [.int .u64 (0:Int)] fun n1 =>
  st ⟨n1, 0⟩ [.int .u64 (0:Int)] <|
  call Tryz.prog N_board_Board_All [.lf (.ptr b)] [.lf .fn] fun (r2 : Fv) =>
  rangeF Tryz.prog r2 [.agg K_u6b3] (fun (v3 : T_u6b3) mid4 next5 jump6 =>
  new [.int .u64 (0:Int), .int .u64 (0:Int), .int .u64 (0:Int), .int .u64 (0:Int), .int .u64 (0:Int), .int .u64 (0:Int), .bool false, .bool false, .bool false] fun n7 =>
  st ⟨n7, 0⟩ (Ks.mk K_u6b3 v3) <|
  mid4 <|
  ld K_u6b3 ⟨n7, 0⟩ fun (x8 : T_u6b3) =>
  call Tryz.prog N_board_flying [.agg (Ks.mk K_u6b3 x8)] [.lf .bool] fun (r9 : Bool) =>
  ite' r9 (
  ld [.int .u64] ⟨n1, 0⟩ fun (x10 : Int) =>
  ld [.int .u64] ⟨n7, 1⟩ fun (x11 : Int) =>
  ld [.int .u64] ⟨n7, 0⟩ fun (x12 : Int) =>
  st ⟨n1, 0⟩ [.int .u64 (IntKind.u64.wrap (x10 + (IntKind.u64.wrap (x11 - x12))))] <|
  next5) <|
  next5) fun i13 => isBy 0 i13 (ld [.int .u64] ⟨n1, 0⟩ fun (x14 : Int) =>
  leave n0 <| R x14) <|
  wno
theorem sem_board_Board_Flight (b : Option Pt) (R : Rs.T [.lf (.int .u64)] → WP) : Same (semF Tryz.prog Tryz.f53 (.s .o (.s .o (.s (.s .o (.b (.r [.agg K_u6b3] .o (.b (.s .o (.s .o .o)))))) (.s .o .o)))) [.lf (.ptr b)] [.lf (.int .u64)] R) (fun w => W_board_Board_Flight w.heap.size b R w) := ⟨by kernel_rfl⟩
theorem call_board_Board_Flight (b : Option Pt) (R : Rs.T [.lf (.int .u64)] → WP) (w : World) (h : W_board_Board_Flight w.heap.size b R w) :
    CallX Tryz.prog N_board_Board_Flight ([.lf (.ptr b)].map V1.enc) w fun v w' => ∃ x, v = (retTV (Rs.mk [.lf (.int .u64)] x)).enc ∧ R x w' :=
  callX_of_semF Tryz.func53 (by kernel_rfl) (by kernel_rfl) (sem_board_Board_Flight b R) h


/-- (*canter/board.Board).Len -/
def W_board_Board_Len (b : Option Pt) (R : Rs.T [.lf (.int .i64)] → WP) : WP :=
  ite' b.isNone (
  R (0:Int)) <|
  deref b fun q1 =>
  ld [.sl] q1 fun (x2 : Sl) =>
  R ((x2.len : Nat) : Int)
theorem sem_board_Board_Len (b : Option Pt) (R : Rs.T [.lf (.int .i64)] → WP) : Same (semF Tryz.prog Tryz.f86 (.s .o (.s (.s .o (.s (.s .o .o) .o)) (.s .o .o))) [.lf (.ptr b)] [.lf (.int .i64)] R) (fun w => W_board_Board_Len b R w) := ⟨by kernel_rfl⟩
theorem call_board_Board_Len (b : Option Pt) (R : Rs.T [.lf (.int .i64)] → WP) (w : World) (h : W_board_Board_Len b R w) :
    CallX Tryz.prog N_board_Board_Len ([.lf (.ptr b)].map V1.enc) w fun v w' => ∃ x, v = (retTV (Rs.mk [.lf (.int .i64)] x)).enc ∧ R x w' :=
  callX_of_semF Tryz.func86 (by kernel_rfl) (by kernel_rfl) (sem_board_Board_Len b R) h


/-- (*canter/board.Board).Lose -/
def W_board_Board_Lose (b : Option Pt) (R : Rs.T [.lf (.int .u64)] → WP) : WP :=
  ite' b.isNone (
  R (0:Int)) <|
  deref b fun q1 =>
  ld [.sl] q1 fun (x2 : Sl) =>
  loop [.int .u64, .int .i64] ((0:Int), (0:Int)) fun J3 (y4 : Int × Int) =>
  ite' (decide (y4.2 < ((x2.len : Nat) : Int))) (
  idx x2 y4.2 9 fun q5 =>
  ld K_u6b3 q5 fun (x6 : T_u6b3) =>
  new [.int .u64 (0:Int), .int .u64 (0:Int), .int .u64 (0:Int), .int .u64 (0:Int), .int .u64 (0:Int), .int .u64 (0:Int), .bool false, .bool false, .bool false] fun n7 =>
  st ⟨n7, 0⟩ (Ks.mk K_u6b3 x6) <|
  ld K_u6b3 ⟨n7, 0⟩ fun (x8 : T_u6b3) =>
  call Tryz.prog N_board_flying [.agg (Ks.mk K_u6b3 x8)] [.lf .bool] fun (r9 : Bool) =>
  ite' r9 (
  deref b fun q10 =>
  ld [.sl] q10 fun (x11 : Sl) =>
  idx x11 y4.2 9 fun q12 =>
  st ⟨q12.b, q12.o + 8⟩ [.bool true] <|
  ld [.int .u64] ⟨n7, 1⟩ fun (x13 : Int) =>
  ld [.int .u64] ⟨n7, 0⟩ fun (x14 : Int) =>
  J3 ((IntKind.u64.wrap (y4.1 + (IntKind.u64.wrap (x13 - x14)))), (IntKind.i64.wrap (y4.2 + (1:Int))))) <|
  J3 (y4.1, (IntKind.i64.wrap (y4.2 + (1:Int))))) <|
  R y4.1
theorem sem_board_Board_Lose (b : Option Pt) (R : Rs.T [.lf (.int .u64)] → WP) : Same (semF Tryz.prog Tryz.f54 (.s .o (.s (.s .o (.s (.s .o .o) .o)) (.s .o (.s (.s .o (.b (.l [(3, .lf (.int .u64)), (13, .lf (.int .i64))] (.s .o (.s (.s .o .o) (.s (.b (.s .o (.s .o (.s (.s .o .o) .o)))) .o)))))) (.s .o .o))))) [.lf (.ptr b)] [.lf (.int .u64)] R) (fun w => W_board_Board_Lose b R w) := ⟨by kernel_rfl⟩
theorem call_board_Board_Lose (b : Option Pt) (R : Rs.T [.lf (.int .u64)] → WP) (w : World) (h : W_board_Board_Lose b R w) :
    CallX Tryz.prog N_board_Board_Lose ([.lf (.ptr b)].map V1.enc) w fun v w' => ∃ x, v = (retTV (Rs.mk [.lf (.int .u64)] x)).enc ∧ R x w' :=
  callX_of_semF Tryz.func54 (by kernel_rfl) (by kernel_rfl) (sem_board_Board_Lose b R) h


/-- (*canter/board.Board).Lost -/
def W_board_Board_Lost (b : Option Pt) (R : Rs.T [.agg [.int .u64, .int .u64], .lf .bool] → WP) : WP :=
  new [.int .u64 (0:Int), .int .u64 (0:Int)] fun n1 =>
  call Tryz.prog N_board_Board_lost [.lf (.ptr b)] [.lf (.int .i64)] fun (r2 : Int) =>
  ite' (decide (r2 < (0:Int))) (
  st ⟨n1, 0⟩ [.int .u64 (0:Int), .int .u64 (0:Int)] <|
  ld [.int .u64, .int .u64] ⟨n1, 0⟩ fun (x3 : Int × Int) =>
  R (x3, false)) <|
  drw <|
  deref b fun q4 =>
  deref b fun q5 =>
  ld [.sl] q4 fun (x6 : Sl) =>
  ld [.sl] q5 fun (x7 : Sl) =>
  idx x6 r2 9 fun q8 =>
  idx x7 r2 9 fun q9 =>
  ld [.int .u64] q8 fun (x10 : Int) =>
  ld [.int .u64] ⟨q9.b, q9.o + 1⟩ fun (x11 : Int) =>
  st ⟨n1, 0⟩ [.int .u64 x10, .int .u64 x11] <|
  ld [.int .u64, .int .u64] ⟨n1, 0⟩ fun (x12 : Int × Int) =>
  R (x12, true)
theorem sem_board_Board_Lost (b : Option Pt) (R : Rs.T [.agg [.int .u64, .int .u64], .lf .bool] → WP) : Same (semF Tryz.prog Tryz.f82 (.s .o (.s .o (.s (.s .o (.s (.s .o .o) .o)) (.s (.d (.f 0 [0] (.f 4 [4] (.f 8 [0] (.f 12 [4] (.f 1 [10] (.f 9 [18] (.f 2 [11] (.f 10 [19] (.f 3 [12] (.f 11 [20] (.f 5 [13, 14] (.f 13 [21, 22] (.f 6 [15] (.f 14 [23] (.f 7 [16] (.f 15 [24] (.f 16 [17, 25] (.w 17 [2, 26] (.w 18 [] .fin)))))))))))))))))))) .o)))) [.lf (.ptr b)] [.agg [.int .u64, .int .u64], .lf .bool] R) (fun w => W_board_Board_Lost b R w) := ⟨by kernel_rfl⟩
theorem call_board_Board_Lost (b : Option Pt) (R : Rs.T [.agg [.int .u64, .int .u64], .lf .bool] → WP) (w : World) (h : W_board_Board_Lost b R w) :
    CallX Tryz.prog N_board_Board_Lost ([.lf (.ptr b)].map V1.enc) w fun v w' => ∃ x, v = (retTV (Rs.mk [.agg [.int .u64, .int .u64], .lf .bool] x)).enc ∧ R x w' :=
  callX_of_semF Tryz.func82 (by kernel_rfl) (by kernel_rfl) (sem_board_Board_Lost b R) h


/-- (*canter/board.Board).Sent -/
def W_board_Board_Sent (b : Option Pt) (from' : Int) (to' : Int) (s : T_u4b) (R : Rs.T [.lf (.int .i64)] → WP) : WP :=
  new (Ks.mk K_u4b s) fun n1 =>
  ite' b.isNone (
  R (2:Int)) <|
  deref b fun q2 =>
  ld [.int .u64] ⟨q2.b, q2.o + 1⟩ fun (x3 : Int) =>
  ite' ((from' != x3) || (decide (to' ≤ from'))) (
  R (1:Int)) <|
  deref b fun q4 =>
  ld [.sl] q4 fun (x5 : Sl) =>
  ite' (decide (((x5.len : Nat) : Int) ≥ (4096:Int))) (
  R (5:Int)) <|
  drw <|
  ld K_u4b ⟨n1, 0⟩ fun (x6 : T_u4b) =>
  deref b fun q7 =>
  ld [.sl] q7 fun (x8 : Sl) =>
  new [.int .u64 from', .int .u64 to', .int .u64 x6.1, .int .u64 x6.2.1, .int .u64 x6.2.2.1, .int .u64 x6.2.2.2.1, .bool x6.2.2.2.2, .bool false, .bool false] fun n9 =>
  chk q7 (Ks.mk [.sl] x8) <|
  app 9 x8 ⟨some ⟨n9, 0⟩, 1, 1⟩ fun s10 =>
  deref b fun q11 =>
  st q11 [.sl s10] <|
  deref b fun q12 =>
  st ⟨q12.b, q12.o + 1⟩ [.int .u64 to'] <|
  R (0:Int)
theorem sem_board_Board_Sent (b : Option Pt) (from' : Int) (to' : Int) (s : T_u4b) (R : Rs.T [.lf (.int .i64)] → WP) : Same (semF Tryz.prog Tryz.f43 (.s .o (.s (.b (.s .o (.s (.s .o .o) (.s .o (.s (.s .o .o) (.s .o (.s (.s .o .o) .o))))))) (.s (.d (.f 0 [0] (.f 1 [0] (.f 5 [1] (.f 6 [2] (.f 7 [7] (.f 2 [32] (.f 8 [36, 37, 38] (.f 3 [33] (.f 4 [34] (.w 9 [39] (.w 10 [35, 40] (.f 11 [31] (.f 12 [42] (.w 13 [41, 43] .fin))))))))))))))) (.s .o (.s .o .o))))) [.lf (.ptr b), .lf (.int .u64 from'), .lf (.int .u64 to'), .agg (Ks.mk K_u4b s)] [.lf (.int .i64)] R) (fun w => W_board_Board_Sent b from' to' s R w) := ⟨by kernel_rfl⟩
theorem call_board_Board_Sent (b : Option Pt) (from' : Int) (to' : Int) (s : T_u4b) (R : Rs.T [.lf (.int .i64)] → WP) (w : World) (h : W_board_Board_Sent b from' to' s R w) :
    CallX Tryz.prog N_board_Board_Sent ([.lf (.ptr b), .lf (.int .u64 from'), .lf (.int .u64 to'), .agg (Ks.mk K_u4b s)].map V1.enc) w fun v w' => ∃ x, v = (retTV (Rs.mk [.lf (.int .i64)] x)).enc ∧ R x w' :=
  callX_of_semF Tryz.func43 (by kernel_rfl) (by kernel_rfl) (sem_board_Board_Sent b from' to' s R) h


/-- (*canter/board.Board).lost -/
def W_board_Board_lost (n0 : Nat) (b : Option Pt) (R : Rs.T [.lf (.int .i64)] → WP) : WP :=
  new [.int .i64 (0:Int)] fun n1 =>
  new [.int .i64 (0:Int)] fun n2 =>
  st ⟨n2, 0⟩ [.int .i64 (0:Int)] <|
  call Tryz.prog N_board_Board_All [.lf (.ptr b)] [.lf .fn] fun (r3 : Fv) =>
  rangeF Tryz.prog r3 [.agg K_u6b3] (fun (v4 : T_u6b3) mid5 next6 jump7 =>
  new [.int .u64 (0:Int), .int .u64 (0:Int), .int .u64 (0:Int), .int .u64 (0:Int), .int .u64 (0:Int), .int .u64 (0:Int), .bool false, .bool false, .bool false] fun n8 =>
  st ⟨n8, 0⟩ (Ks.mk K_u6b3 v4) <|
  mid5 <|
  ld [.bool] ⟨n8, 8⟩ fun (x9 : Bool) =>
  ite' x9 (
  ld [.int .i64] ⟨n2, 0⟩ fun (x10 : Int) =>
  st ⟨n1, 0⟩ [.int .i64 x10] <|
  jump7 1) <|
  ld [.int .i64] ⟨n2, 0⟩ fun (x11 : Int) =>
  st ⟨n2, 0⟩ [.int .i64 (IntKind.i64.wrap (x11 + (1:Int)))] <|
  next6) fun i12 => isBy 0 i12 (st ⟨n1, 0⟩ [.int .i64 (-1:Int)] <|
  ld [.int .i64] ⟨n1, 0⟩ fun (x13 : Int) =>
  leave n0 <| R x13) <|
  isBy 1 i12 (ld [.int .i64] ⟨n1, 0⟩ fun (x14 : Int) =>
  leave n0 <| R x14) <|
  wno
theorem sem_board_Board_lost (b : Option Pt) (R : Rs.T [.lf (.int .i64)] → WP) : Same (semF Tryz.prog Tryz.f87 (.s .o (.s .o (.s (.s .o (.b (.r [.agg K_u6b3] .o (.b (.s (.s .o (.s (.s .o .o) .o)) .o))))) (.s .o .o)))) [.lf (.ptr b)] [.lf (.int .i64)] R) (fun w => W_board_Board_lost w.heap.size b R w) := ⟨by kernel_rfl⟩
theorem call_board_Board_lost (b : Option Pt) (R : Rs.T [.lf (.int .i64)] → WP) (w : World) (h : W_board_Board_lost w.heap.size b R w) :
    CallX Tryz.prog N_board_Board_lost ([.lf (.ptr b)].map V1.enc) w fun v w' => ∃ x, v = (retTV (Rs.mk [.lf (.int .i64)] x)).enc ∧ R x w' :=
  callX_of_semF Tryz.func87 (by kernel_rfl) (by kernel_rfl) (sem_board_Board_lost b R) h


/-- (*canter/board.Board).may -/
def W_board_Board_may (b : Option Pt) (upto : Int) (sacks : Sl) (R : Rs.T [.lf .bool] → WP) : WP :=
  new [.ptr b] fun n1 =>
  ld [.ptr] ⟨n1, 0⟩ fun (x2 : Option Pt) =>
  deref x2 fun q3 =>
  ld [.int .u64] ⟨q3.b, q3.o + 1⟩ fun (x4 : Int) =>
  ite' (decide (upto ≤ x4)) (
  call Tryz.prog N_slices_ContainsFunc_sapiRangeapiRange [.lf (.sl sacks), .lf (.fn (.mk (.func N_board_Board_may_c1) [] [V1.enc (.lf (.ptr (some ⟨n1, 0⟩)))]))] [.lf .bool] fun (r5 : Bool) =>
  R (!r5)) <|
  R false
theorem sem_board_Board_may (b : Option Pt) (upto : Int) (sacks : Sl) (R : Rs.T [.lf .bool] → WP) : Same (semF Tryz.prog Tryz.f97 (.s .o (.s .o .o)) [.lf (.ptr b), .lf (.int .u64 upto), .lf (.sl sacks)] [.lf .bool] R) (fun w => W_board_Board_may b upto sacks R w) := ⟨by kernel_rfl⟩
theorem call_board_Board_may (b : Option Pt) (upto : Int) (sacks : Sl) (R : Rs.T [.lf .bool] → WP) (w : World) (h : W_board_Board_may b upto sacks R w) :
    CallX Tryz.prog N_board_Board_may ([.lf (.ptr b), .lf (.int .u64 upto), .lf (.sl sacks)].map V1.enc) w fun v w' => ∃ x, v = (retTV (Rs.mk [.lf .bool] x)).enc ∧ R x w' :=
  callX_of_semF Tryz.func97 (by kernel_rfl) (by kernel_rfl) (sem_board_Board_may b upto sacks R) h


/-- (*canter/board.Board).may$1 -/
def W_board_Board_may_c1 (r : Int × Int) (c0 : Pt) (R : Rs.T [.lf .bool] → WP) : WP :=
  new (Ks.mk [.int .u64, .int .u64] r) fun n1 =>
  drw <|
  ld [.ptr] c0 fun (x2 : Option Pt) =>
  ld [.int .u64] ⟨n1, 1⟩ fun (x3 : Int) =>
  deref x2 fun q4 =>
  ld [.int .u64] ⟨q4.b, q4.o + 1⟩ fun (x5 : Int) =>
  ite' (decide (x3 > x5)) (
  R true) <|
  ld [.int .u64] ⟨n1, 0⟩ fun (x6 : Int) =>
  ld [.int .u64] ⟨n1, 1⟩ fun (x7 : Int) =>
  R (decide (x6 ≥ x7))
theorem sem_board_Board_may_c1 (r : Int × Int) (c0 : Pt) (R : Rs.T [.lf .bool] → WP) : Same (semF Tryz.prog Tryz.f126 (.s .o (.s (.d (.f 0 [2] (.f 2 [1] (.f 1 [4] (.f 3 [6] (.f 4 [7] (.f 5 [8] (.f 6 [5, 9] (.f 7 [10] (.f 8 [2, 11] (.f 10 [2, 11] (.f 9 [11, 12] (.f 11 [11, 14] (.f 12 [11, 13, 15] (.f 13 [11, 16] (.w 14 [17] .fin)))))))))))))))) .o)) [.agg (Ks.mk [.int .u64, .int .u64] r), .lf (.ptr (some c0))] [.lf .bool] R) (fun w => W_board_Board_may_c1 r c0 R w) := ⟨by kernel_rfl⟩
theorem call_board_Board_may_c1 (r : Int × Int) (c0 : Pt) (R : Rs.T [.lf .bool] → WP) (w : World) (h : W_board_Board_may_c1 r c0 R w) :
    CallX Tryz.prog N_board_Board_may_c1 ([.agg (Ks.mk [.int .u64, .int .u64] r), .lf (.ptr (some c0))].map V1.enc) w fun v w' => ∃ x, v = (retTV (Rs.mk [.lf .bool] x)).enc ∧ R x w' :=
  callX_of_semF Tryz.func126 (by kernel_rfl) (by kernel_rfl) (sem_board_Board_may_c1 r c0 R) h


/-- (*canter/board.Board).passed -/
def W_board_Board_passed (b : Option Pt) (R : Rs.T [.lf (.int .u64)] → WP) : WP :=
  deref b fun q1 =>
  ld [.sl] q1 fun (x2 : Sl) =>
  loop K_ui2 ((0:Int), (0:Int), (IntKind.i64.wrap (((x2.len : Nat) : Int) - (1:Int)))) fun J3 (y4 : T_ui2) =>
  ite' (decide (y4.2.2 ≥ (0:Int))) (
  deref b fun q5 =>
  ld [.sl] q5 fun (x6 : Sl) =>
  idx x6 y4.2.2 9 fun q7 =>
  join [.int .i64] (fun J8 =>
  deref (some q7) fun q10 =>
  ld [.bool] ⟨q10.b, q10.o + 7⟩ fun (x11 : Bool) =>
  ite' x11 (
  J8 (IntKind.i64.wrap (y4.2.1 + (1:Int)))) <|
  J8 y4.2.1) fun (y9 : Int) =>
  deref (some q7) fun q12 =>
  ld K_u6b3 q12 fun (x13 : T_u6b3) =>
  call Tryz.prog N_board_flying [.agg (Ks.mk K_u6b3 x13)] [.lf .bool] fun (r14 : Bool) =>
  ite' (r14 && (decide (y9 ≥ (3:Int)))) (
  deref (some q7) fun q15 =>
  st ⟨q15.b, q15.o + 8⟩ [.bool true] <|
  drw <|
  deref (some q7) fun q16 =>
  deref (some q7) fun q17 =>
  ld [.int .u64] ⟨q16.b, q16.o + 1⟩ fun (x18 : Int) =>
  ld [.int .u64] q17 fun (x19 : Int) =>
  J3 ((IntKind.u64.wrap (y4.1 + (IntKind.u64.wrap (x18 - x19)))), y9, (IntKind.i64.wrap (y4.2.2 - (1:Int))))) <|
  J3 (y4.1, y9, (IntKind.i64.wrap (y4.2.2 - (1:Int))))) <|
  R y4.1
theorem sem_board_Board_passed (b : Option Pt) (R : Rs.T [.lf (.int .u64)] → WP) : Same (semF Tryz.prog Tryz.f99 (.s .o (.s .o (.s (.s .o (.b (.l [(3, .lf (.int .u64)), (4, .lf (.int .i64)), (5, .lf (.int .i64))] (.s (.s .o (.s .o .o)) (.s (.b (.s .o (.j [(4, .lf (.int .i64))] (.s .o (.s .o .o)) (.s .o (.s (.s .o (.d (.f 0 [3] (.f 1 [6] (.f 5 [6] (.f 2 [41] (.f 6 [45] (.f 3 [42] (.f 7 [46] (.f 4 [43] (.f 8 [47] (.f 9 [44, 48] (.f 10 [40, 49] (.w 11 [50] .fin)))))))))))))) .o))))) .o))))) (.s .o .o)))) [.lf (.ptr b)] [.lf (.int .u64)] R) (fun w => W_board_Board_passed b R w) := ⟨by kernel_rfl⟩
theorem call_board_Board_passed (b : Option Pt) (R : Rs.T [.lf (.int .u64)] → WP) (w : World) (h : W_board_Board_passed b R w) :
    CallX Tryz.prog N_board_Board_passed ([.lf (.ptr b)].map V1.enc) w fun v w' => ∃ x, v = (retTV (Rs.mk [.lf (.int .u64)] x)).enc ∧ R x w' :=
  callX_of_semF Tryz.func99 (by kernel_rfl) (by kernel_rfl) (sem_board_Board_passed b R) h


/-- canter/board.New -/
def W_board_New  (R : Rs.T [.lf .ptr] → WP) : WP :=
  new [.sl ⟨none, 0, 0⟩, .int .u64 (0:Int)] fun n1 =>
  R (some ⟨n1, 0⟩)
theorem sem_board_New  (R : Rs.T [.lf .ptr] → WP) : Same (semF Tryz.prog Tryz.f35 (.s .o (.s .o .o)) [] [.lf .ptr] R) (fun w => W_board_New  R w) := ⟨by kernel_rfl⟩
theorem call_board_New  (R : Rs.T [.lf .ptr] → WP) (w : World) (h : W_board_New  R w) :
    CallX Tryz.prog N_board_New ([].map V1.enc) w fun v w' => ∃ x, v = (retTV (Rs.mk [.lf .ptr] x)).enc ∧ R x w' :=
  callX_of_semF Tryz.func35 (by kernel_rfl) (by kernel_rfl) (sem_board_New  R) h


/-- canter/board.flying -/
def W_board_flying (p : T_u6b3) (R : Rs.T [.lf .bool] → WP) : WP :=
  new (Ks.mk K_u6b3 p) fun n1 =>
  ld [.bool] ⟨n1, 7⟩ fun (x2 : Bool) =>
  ite' (!x2) (
  ld [.bool] ⟨n1, 8⟩ fun (x3 : Bool) =>
  R (!x3)) <|
  R false
theorem sem_board_flying (p : T_u6b3) (R : Rs.T [.lf .bool] → WP) : Same (semF Tryz.prog Tryz.f104 (.s .o (.s .o .o)) [.agg (Ks.mk K_u6b3 p)] [.lf .bool] R) (fun w => W_board_flying p R w) := ⟨by kernel_rfl⟩
theorem call_board_flying (p : T_u6b3) (R : Rs.T [.lf .bool] → WP) (w : World) (h : W_board_flying p R w) :
    CallX Tryz.prog N_board_flying ([.agg (Ks.mk K_u6b3 p)].map V1.enc) w fun v w' => ∃ x, v = (retTV (Rs.mk [.lf .bool] x)).enc ∧ R x w' :=
  callX_of_semF Tryz.func104 (by kernel_rfl) (by kernel_rfl) (sem_board_flying p R) h


/-- canter/board.holds -/
def W_board_holds (sacks : Sl) (p : T_u6b3) (R : Rs.T [.lf .bool] → WP) : WP :=
  new (Ks.mk K_u6b3 p) fun n1 =>
  call Tryz.prog N_slices_ContainsFunc_sapiRangeapiRange [.lf (.sl sacks), .lf (.fn (.mk (.func N_board_holds_c1) [] [V1.enc (.lf (.ptr (some ⟨n1, 0⟩)))]))] [.lf .bool] fun (r2 : Bool) =>
  R r2
theorem sem_board_holds (sacks : Sl) (p : T_u6b3) (R : Rs.T [.lf .bool] → WP) : Same (semF Tryz.prog Tryz.f98 (.s .o (.s .o .o)) [.lf (.sl sacks), .agg (Ks.mk K_u6b3 p)] [.lf .bool] R) (fun w => W_board_holds sacks p R w) := ⟨by kernel_rfl⟩
theorem call_board_holds (sacks : Sl) (p : T_u6b3) (R : Rs.T [.lf .bool] → WP) (w : World) (h : W_board_holds sacks p R w) :
    CallX Tryz.prog N_board_holds ([.lf (.sl sacks), .agg (Ks.mk K_u6b3 p)].map V1.enc) w fun v w' => ∃ x, v = (retTV (Rs.mk [.lf .bool] x)).enc ∧ R x w' :=
  callX_of_semF Tryz.func98 (by kernel_rfl) (by kernel_rfl) (sem_board_holds sacks p R) h


/-- canter/board.holds$1 -/
def W_board_holds_c1 (r : Int × Int) (c0 : Pt) (R : Rs.T [.lf .bool] → WP) : WP :=
  new (Ks.mk [.int .u64, .int .u64] r) fun n1 =>
  ld [.int .u64] ⟨n1, 0⟩ fun (x2 : Int) =>
  ld [.int .u64] c0 fun (x3 : Int) =>
  ite' (decide (x2 ≤ x3)) (
  ld [.int .u64] ⟨n1, 1⟩ fun (x4 : Int) =>
  ld [.int .u64] ⟨c0.b, c0.o + 1⟩ fun (x5 : Int) =>
  R (decide (x4 ≥ x5))) <|
  R false
theorem sem_board_holds_c1 (r : Int × Int) (c0 : Pt) (R : Rs.T [.lf .bool] → WP) : Same (semF Tryz.prog Tryz.f127 (.s .o (.s .o .o)) [.agg (Ks.mk [.int .u64, .int .u64] r), .lf (.ptr (some c0))] [.lf .bool] R) (fun w => W_board_holds_c1 r c0 R w) := ⟨by kernel_rfl⟩
theorem call_board_holds_c1 (r : Int × Int) (c0 : Pt) (R : Rs.T [.lf .bool] → WP) (w : World) (h : W_board_holds_c1 r c0 R w) :
    CallX Tryz.prog N_board_holds_c1 ([.agg (Ks.mk [.int .u64, .int .u64] r), .lf (.ptr (some c0))].map V1.enc) w fun v w' => ∃ x, v = (retTV (Rs.mk [.lf .bool] x)).enc ∧ R x w' :=
  callX_of_semF Tryz.func127 (by kernel_rfl) (by kernel_rfl) (sem_board_holds_c1 r c0 R) h


/-- (*canter/buffer.Buffer).Acked -/
def W_buffer_Buffer_Acked (b : Option Pt) (upto : Int) (R : Rs.T [.lf (.int .i64)] → WP) : WP :=
  ite' b.isNone (
  R (2:Int)) <|
  deref b fun q1 =>
  ld [.int .u64] ⟨q1.b, q1.o + 1⟩ fun (x2 : Int) =>
  ite' (decide (upto > x2)) (
  R (11:Int)) <|
  deref b fun q3 =>
  ld [.int .u64] ⟨q3.b, q3.o + 2⟩ fun (x4 : Int) =>
  deref b fun q5 =>
  st ⟨q5.b, q5.o + 2⟩ [.int .u64 (if upto > x4 then upto else x4)] <|
  R (0:Int)
theorem sem_buffer_Buffer_Acked (b : Option Pt) (upto : Int) (R : Rs.T [.lf (.int .i64)] → WP) : Same (semF Tryz.prog Tryz.f48 (.s .o (.s (.b (.s .o (.s (.s .o .o) (.s .o (.s (.s .o .o) .o))))) (.s .o (.s .o .o)))) [.lf (.ptr b), .lf (.int .u64 upto)] [.lf (.int .i64)] R) (fun w => W_buffer_Buffer_Acked b upto R w) := ⟨by kernel_rfl⟩
theorem call_buffer_Buffer_Acked (b : Option Pt) (upto : Int) (R : Rs.T [.lf (.int .i64)] → WP) (w : World) (h : W_buffer_Buffer_Acked b upto R w) :
    CallX Tryz.prog N_buffer_Buffer_Acked ([.lf (.ptr b), .lf (.int .u64 upto)].map V1.enc) w fun v w' => ∃ x, v = (retTV (Rs.mk [.lf (.int .i64)] x)).enc ∧ R x w' :=
  callX_of_semF Tryz.func48 (by kernel_rfl) (by kernel_rfl) (sem_buffer_Buffer_Acked b upto R) h


/-- (*canter/buffer.Buffer).Held -/
def W_buffer_Buffer_Held (b : Option Pt) (R : Rs.T [.lf (.int .u64)] → WP) : WP :=
  ite' b.isNone (
  R (0:Int)) <|
  drw <|
  deref b fun q1 =>
  deref b fun q2 =>
  ld [.int .u64] q1 fun (x3 : Int) =>
  ld [.int .u64] ⟨q2.b, q2.o + 2⟩ fun (x4 : Int) =>
  R (IntKind.u64.wrap (x3 - x4))
theorem sem_buffer_Buffer_Held (b : Option Pt) (R : Rs.T [.lf (.int .u64)] → WP) : Same (semF Tryz.prog Tryz.f81 (.s .o (.s (.s .o (.s (.s .o .o) .o)) (.s (.d (.f 0 [0] (.f 4 [0] (.f 1 [5] (.f 5 [9] (.f 2 [6] (.f 6 [10] (.f 3 [7] (.f 7 [11] (.f 8 [8, 12] (.w 9 [13] .fin))))))))))) .o))) [.lf (.ptr b)] [.lf (.int .u64)] R) (fun w => W_buffer_Buffer_Held b R w) := ⟨by kernel_rfl⟩
theorem call_buffer_Buffer_Held (b : Option Pt) (R : Rs.T [.lf (.int .u64)] → WP) (w : World) (h : W_buffer_Buffer_Held b R w) :
    CallX Tryz.prog N_buffer_Buffer_Held ([.lf (.ptr b)].map V1.enc) w fun v w' => ∃ x, v = (retTV (Rs.mk [.lf (.int .u64)] x)).enc ∧ R x w' :=
  callX_of_semF Tryz.func81 (by kernel_rfl) (by kernel_rfl) (sem_buffer_Buffer_Held b R) h


/-- (*canter/buffer.Buffer).Take -/
def W_buffer_Buffer_Take (b : Option Pt) (most : Int) (R : Rs.T [.agg [.int .u64, .int .u64], .lf .bool] → WP) : WP :=
  new [.int .u64 (0:Int), .int .u64 (0:Int)] fun n1 =>
  new [.int .u64 (0:Int), .int .u64 (0:Int)] fun n2 =>
  st ⟨n2, 0⟩ [.int .u64 (0:Int), .int .u64 (0:Int)] <|
  join [.bool] (fun J3 =>
  loop [.bool] false fun J5 (y6 : Bool) =>
  ite' (decide (most ≥ (1:Int))) (
  call Tryz.prog N_buffer_Buffer_Unsent [.lf (.ptr b)] [.lf (.int .u64)] fun (r7 : Int) =>
  ite' ((if r7 < (IntKind.u64.wrap most) then r7 else (IntKind.u64.wrap most)) == (0:Int)) (
  J3 y6) <|
  drw <|
  deref b fun q8 =>
  deref b fun q9 =>
  ld [.int .u64] ⟨q8.b, q8.o + 1⟩ fun (x10 : Int) =>
  ld [.int .u64] ⟨q9.b, q9.o + 1⟩ fun (x11 : Int) =>
  st ⟨n2, 0⟩ [.int .u64 x10, .int .u64 (IntKind.u64.wrap (x11 + (if r7 < (IntKind.u64.wrap most) then r7 else (IntKind.u64.wrap most))))] <|
  deref b fun q12 =>
  ld [.int .u64] ⟨q12.b, q12.o + 1⟩ fun (x13 : Int) =>
  deref b fun q14 =>
  st ⟨q14.b, q14.o + 1⟩ [.int .u64 (IntKind.u64.wrap (x13 + (if r7 < (IntKind.u64.wrap most) then r7 else (IntKind.u64.wrap most))))] <|
  J3 true) <|
  J3 y6) fun (y4 : Bool) =>
  ld [.int .u64, .int .u64] ⟨n2, 0⟩ fun (x15 : Int × Int) =>
  st ⟨n1, 0⟩ (Ks.mk [.int .u64, .int .u64] x15) <|
  ld [.int .u64, .int .u64] ⟨n1, 0⟩ fun (x16 : Int × Int) =>
  R (x16, y4)
theorem sem_buffer_Buffer_Take (b : Option Pt) (most : Int) (R : Rs.T [.agg [.int .u64, .int .u64], .lf .bool] → WP) : Same (semF Tryz.prog Tryz.f42 (.s .o (.s .o (.s .o (.j [(7, .lf .bool)] (.b (.l [(7, .lf .bool)] (.s (.s .o (.s .o .o)) (.b (.s .o (.s (.s .o (.s .o .o)) (.s (.d (.f 0 [0] (.f 4 [0] (.f 8 [8] (.f 1 [19] (.f 5 [23] (.f 2 [20] (.f 6 [24] (.f 3 [21] (.f 7 [25] (.f 9 [26, 27] (.f 10 [22, 28] (.w 11 [6, 29] (.w 12 [] .fin)))))))))))))) (.s .o .o)))))))) (.s .o .o))))) [.lf (.ptr b), .lf (.int .i64 most)] [.agg [.int .u64, .int .u64], .lf .bool] R) (fun w => W_buffer_Buffer_Take b most R w) := ⟨by kernel_rfl⟩
theorem call_buffer_Buffer_Take (b : Option Pt) (most : Int) (R : Rs.T [.agg [.int .u64, .int .u64], .lf .bool] → WP) (w : World) (h : W_buffer_Buffer_Take b most R w) :
    CallX Tryz.prog N_buffer_Buffer_Take ([.lf (.ptr b), .lf (.int .i64 most)].map V1.enc) w fun v w' => ∃ x, v = (retTV (Rs.mk [.agg [.int .u64, .int .u64], .lf .bool] x)).enc ∧ R x w' :=
  callX_of_semF Tryz.func42 (by kernel_rfl) (by kernel_rfl) (sem_buffer_Buffer_Take b most R) h


/-- (*canter/buffer.Buffer).Unsent -/
def W_buffer_Buffer_Unsent (b : Option Pt) (R : Rs.T [.lf (.int .u64)] → WP) : WP :=
  ite' b.isNone (
  R (0:Int)) <|
  drw <|
  deref b fun q1 =>
  deref b fun q2 =>
  ld [.int .u64] q1 fun (x3 : Int) =>
  ld [.int .u64] ⟨q2.b, q2.o + 1⟩ fun (x4 : Int) =>
  R (IntKind.u64.wrap (x3 - x4))
theorem sem_buffer_Buffer_Unsent (b : Option Pt) (R : Rs.T [.lf (.int .u64)] → WP) : Same (semF Tryz.prog Tryz.f72 (.s .o (.s (.s .o (.s (.s .o .o) .o)) (.s (.d (.f 0 [0] (.f 4 [0] (.f 1 [5] (.f 5 [9] (.f 2 [6] (.f 6 [10] (.f 3 [7] (.f 7 [11] (.f 8 [8, 12] (.w 9 [13] .fin))))))))))) .o))) [.lf (.ptr b)] [.lf (.int .u64)] R) (fun w => W_buffer_Buffer_Unsent b R w) := ⟨by kernel_rfl⟩
theorem call_buffer_Buffer_Unsent (b : Option Pt) (R : Rs.T [.lf (.int .u64)] → WP) (w : World) (h : W_buffer_Buffer_Unsent b R w) :
    CallX Tryz.prog N_buffer_Buffer_Unsent ([.lf (.ptr b)].map V1.enc) w fun v w' => ∃ x, v = (retTV (Rs.mk [.lf (.int .u64)] x)).enc ∧ R x w' :=
  callX_of_semF Tryz.func72 (by kernel_rfl) (by kernel_rfl) (sem_buffer_Buffer_Unsent b R) h


/-- (*canter/buffer.Buffer).Write -/
def W_buffer_Buffer_Write (b : Option Pt) (n : Int) (R : Rs.T [.lf (.int .i64)] → WP) : WP :=
  ite' b.isNone (
  R (2:Int)) <|
  ite' (decide (n < (1:Int))) (
  R (1:Int)) <|
  drw <|
  deref b fun q1 =>
  ld [.int .u64] ⟨q1.b, q1.o + 3⟩ fun (x2 : Int) =>
  call Tryz.prog N_buffer_Buffer_Held [.lf (.ptr b)] [.lf (.int .u64)] fun (r3 : Int) =>
  chk ⟨q1.b, q1.o + 3⟩ (Ks.mk [.int .u64] x2) <|
  ite' (decide ((IntKind.u64.wrap n) > (IntKind.u64.wrap (x2 - r3)))) (
  R (5:Int)) <|
  deref b fun q4 =>
  ld [.int .u64] q4 fun (x5 : Int) =>
  deref b fun q6 =>
  st q6 [.int .u64 (IntKind.u64.wrap (x5 + (IntKind.u64.wrap n)))] <|
  R (0:Int)
theorem sem_buffer_Buffer_Write (b : Option Pt) (n : Int) (R : Rs.T [.lf (.int .i64)] → WP) : Same (semF Tryz.prog Tryz.f38 (.s .o (.s (.b (.s .o (.s (.s .o .o) (.s .o (.s (.s .o .o) (.s (.d (.f 0 [1] (.f 2 [0] (.f 6 [0] (.f 1 [12] (.f 3 [14] (.f 4 [15] (.f 5 [16] (.w 7 [18] (.f 8 [17, 19] (.f 9 [13, 20] (.w 10 [21] .fin)))))))))))) (.s (.s .o .o) .o))))))) (.s .o (.s .o .o)))) [.lf (.ptr b), .lf (.int .i64 n)] [.lf (.int .i64)] R) (fun w => W_buffer_Buffer_Write b n R w) := ⟨by kernel_rfl⟩
theorem call_buffer_Buffer_Write (b : Option Pt) (n : Int) (R : Rs.T [.lf (.int .i64)] → WP) (w : World) (h : W_buffer_Buffer_Write b n R w) :
    CallX Tryz.prog N_buffer_Buffer_Write ([.lf (.ptr b), .lf (.int .i64 n)].map V1.enc) w fun v w' => ∃ x, v = (retTV (Rs.mk [.lf (.int .i64)] x)).enc ∧ R x w' :=
  callX_of_semF Tryz.func38 (by kernel_rfl) (by kernel_rfl) (sem_buffer_Buffer_Write b n R) h


/-- canter/buffer.New -/
def W_buffer_New (n : Int) (R : Rs.T [.lf .ptr] → WP) : WP :=
  new [.int .u64 (0:Int), .int .u64 (0:Int), .int .u64 (0:Int), .int .u64 (IntKind.u64.wrap (if (1073741824:Int) < (if (0:Int) > n then (0:Int) else n) then (1073741824:Int) else (if (0:Int) > n then (0:Int) else n)))] fun n1 =>
  R (some ⟨n1, 0⟩)
theorem sem_buffer_New (n : Int) (R : Rs.T [.lf .ptr] → WP) : Same (semF Tryz.prog Tryz.f34 (.s .o (.s .o .o)) [.lf (.int .i64 n)] [.lf .ptr] R) (fun w => W_buffer_New n R w) := ⟨by kernel_rfl⟩
theorem call_buffer_New (n : Int) (R : Rs.T [.lf .ptr] → WP) (w : World) (h : W_buffer_New n R w) :
    CallX Tryz.prog N_buffer_New ([.lf (.int .i64 n)].map V1.enc) w fun v w' => ∃ x, v = (retTV (Rs.mk [.lf .ptr] x)).enc ∧ R x w' :=
  callX_of_semF Tryz.func34 (by kernel_rfl) (by kernel_rfl) (sem_buffer_New n R) h


/-- canter/canterhelp.In[canter/api.Range] -/
def W_canterhelp_In_apiRange (l : Sl) (x : Int × Int) (R : Rs.T [.lf .bool] → WP) : WP :=
  new (Ks.mk [.int .u64, .int .u64] x) fun n1 =>
  loop [.int .i64] (0:Int) fun J2 (y3 : Int) =>
  ite' (decide (y3 < ((l.len : Nat) : Int))) (
  drw <|
  ld [.int .u64, .int .u64] ⟨n1, 0⟩ fun (x4 : Int × Int) =>
  idx l y3 2 fun q5 =>
  ld [.int .u64, .int .u64] q5 fun (x6 : Int × Int) =>
  ite' ((x6.1 == x4.1) && (x6.2 == x4.2)) (
  R true) <|
  J2 (IntKind.i64.wrap (y3 + (1:Int)))) <|
  R false
theorem sem_canterhelp_In_apiRange (l : Sl) (x : Int × Int) (R : Rs.T [.lf .bool] → WP) : Same (semF Tryz.prog Tryz.f21 (.s .o (.s (.s .o (.b (.l [(5, .lf (.int .i64))] (.s (.s .o (.s .o .o)) (.s (.b (.s (.d (.f 0 [0] (.f 1 [5] (.f 4 [3] (.f 2 [12, 13] (.f 3 [14] (.f 5 [15, 16] .fin))))))) (.s (.s .o .o) .o))) .o))))) (.s .o .o))) [.lf (.sl l), .agg (Ks.mk [.int .u64, .int .u64] x)] [.lf .bool] R) (fun w => W_canterhelp_In_apiRange l x R w) := ⟨by kernel_rfl⟩
theorem call_canterhelp_In_apiRange (l : Sl) (x : Int × Int) (R : Rs.T [.lf .bool] → WP) (w : World) (h : W_canterhelp_In_apiRange l x R w) :
    CallX Tryz.prog N_canterhelp_In_apiRange ([.lf (.sl l), .agg (Ks.mk [.int .u64, .int .u64] x)].map V1.enc) w fun v w' => ∃ x, v = (retTV (Rs.mk [.lf .bool] x)).enc ∧ R x w' :=
  callX_of_semF Tryz.func21 (by kernel_rfl) (by kernel_rfl) (sem_canterhelp_In_apiRange l x R) h


/-- canter/canterlaw25.SockOrder -/
def W_canterlaw25_SockOrder (d : T_i4u2bi2) (o : Sl) (R : Rs.T [.lf .bool] → WP) : WP :=
  new (Ks.mk K_i4u2bi2 d) fun n1 =>
  ld K_i4u2bi2 ⟨n1, 0⟩ fun (x2 : T_i4u2bi2) =>
  call Tryz.prog N_canterplay_Config [.agg (Ks.mk K_i4u2bi2 x2)] [.agg K_i4u2bi2] fun (r3 : T_i4u2bi2) =>
  st ⟨n1, 0⟩ (Ks.mk K_i4u2bi2 r3) <|
  ld K_i4u2bi2 ⟨n1, 0⟩ fun (x4 : T_i4u2bi2) =>
  call Tryz.prog N_sock_New [.lf (.int .i64 (3:Int)), .agg (Ks.mk K_i4u2bi2 x4)] [.lf .ptr] fun (r5 : Option Pt) =>
  call Tryz.prog N_canterlaw25_awake [] [.lf .bool] fun (r6 : Bool) =>
  ite' ((!r6) || r5.isNone) (
  R false) <|
  loop K_u3si ((0:Int), (0:Int), (0:Int), ⟨none, 0, 0⟩, (0:Int)) fun J7 (y8 : T_u3si) =>
  ite' ((decide (y8.2.2.2.2 < ((o.len : Nat) : Int))) && (decide (y8.2.2.2.2 < (80:Int)))) (
  idx o y8.2.2.2.2 5 fun q9 =>
  ld K_i2u2s q9 fun (x10 : T_i2u2s) =>
  new [.int .i64 (0:Int), .int .i64 (0:Int), .int .u64 (0:Int), .int .u64 (0:Int), .sl ⟨none, 0, 0⟩] fun n11 =>
  st ⟨n11, 0⟩ (Ks.mk K_i2u2s x10) <|
  ld [.int .u64] ⟨n11, 2⟩ fun (x12 : Int) =>
  call Tryz.prog N_canterref01_Add [.lf (.int .u64 y8.1), .lf (.int .u64 (x12.tmod (1000000000:Int)))] [.lf (.int .u64)] fun (r13 : Int) =>
  ld [.int .i64] ⟨n11, 0⟩ fun (x14 : Int) =>
  join [.bool] (fun J15 =>
  ite' (x14 == (1:Int)) (
  J15 (x14 == (1:Int))) <|
  ite' (x14 == (2:Int)) (
  J15 (x14 == (2:Int))) <|
  J15 (x14 == (5:Int))) fun (y16 : Bool) =>
  ite' y16 (
  call Tryz.prog N_sock_Sock_Model [.lf (.ptr r5)] [.agg K_i2u6b2] fun (r17 : T_i2u6b2) =>
  call Tryz.prog N_sock_Sock_Emit [.lf (.ptr r5), .lf (.int .u64 (if (4611686018427387904:Int) < r13 then (4611686018427387904:Int) else r13))] [.agg K_iuiub, .lf (.int .i64)] fun (r18 : T_iuiub × Int) =>
  new [.int .i64 (0:Int), .int .u64 (0:Int), .int .i64 (0:Int), .int .u64 (0:Int), .bool false] fun n19 =>
  st ⟨n19, 0⟩ (Ks.mk K_iuiub r18.1) <|
  ite' (r18.2 != (0:Int)) (
  call Tryz.prog N_sock_Sock_Out [.lf (.ptr r5)] [.lf (.int .u64)] fun (r20 : Int) =>
  call Tryz.prog N_sock_Sock_Done [.lf (.ptr r5), .lf (.int .i64 (IntKind.i64.wrap (if (1073741824:Int) < r20 then (1073741824:Int) else r20)))] [.lf (.int .i64)] fun (r21 : Int) =>
  J7 ((if (4611686018427387904:Int) < r13 then (4611686018427387904:Int) else r13), y8.2.1, y8.2.2.1, y8.2.2.2.1, (IntKind.i64.wrap (y8.2.2.2.2 + (1:Int))))) <|
  ld [.int .u64] ⟨n19, 1⟩ fun (x22 : Int) =>
  ld [.int .u64] ⟨n19, 1⟩ fun (x23 : Int) =>
  ld [.int .i64] ⟨n19, 2⟩ fun (x24 : Int) =>
  new [.int .u64 (0:Int), .int .u64 (0:Int)] fun n25 =>
  st ⟨n25, 0⟩ [.int .u64 x22, .int .u64 (IntKind.u64.wrap (x23 + (IntKind.u64.wrap x24)))] <|
  join [.bool] (fun J26 =>
  ld [.int .i64] ⟨n19, 0⟩ fun (x28 : Int) =>
  ite' (x28 != (3:Int)) (
  J26 true) <|
  ld [.bool] ⟨n19, 4⟩ fun (x29 : Bool) =>
  ite' (!x29) (
  ld [.int .u64] ⟨n19, 1⟩ fun (x30 : Int) =>
  ite' (x30 != y8.2.1) (
  J26 true) <|
  ld [.bool] ⟨n19, 4⟩ fun (x31 : Bool) =>
  ite' x31 (
  ld [.int .u64, .int .u64] ⟨n25, 0⟩ fun (x32 : Int × Int) =>
  call Tryz.prog N_canterhelp_In_apiRange [.lf (.sl y8.2.2.2.1), .agg (Ks.mk [.int .u64, .int .u64] x32)] [.lf .bool] fun (r33 : Bool) =>
  ite' (!r33) (
  J26 true) <|
  ld [.int .u64] ⟨n19, 3⟩ fun (x34 : Int) =>
  J26 (x34 != (if y8.2.2.1 > (if (4611686018427387904:Int) < r13 then (4611686018427387904:Int) else r13) then y8.2.2.1 else (if (4611686018427387904:Int) < r13 then (4611686018427387904:Int) else r13)))) <|
  ld [.int .u64] ⟨n19, 3⟩ fun (x35 : Int) =>
  J26 (x35 != (if y8.2.2.1 > (if (4611686018427387904:Int) < r13 then (4611686018427387904:Int) else r13) then y8.2.2.1 else (if (4611686018427387904:Int) < r13 then (4611686018427387904:Int) else r13)))) <|
  ld [.bool] ⟨n19, 4⟩ fun (x36 : Bool) =>
  ite' x36 (
  ld [.int .u64, .int .u64] ⟨n25, 0⟩ fun (x37 : Int × Int) =>
  call Tryz.prog N_canterhelp_In_apiRange [.lf (.sl y8.2.2.2.1), .agg (Ks.mk [.int .u64, .int .u64] x37)] [.lf .bool] fun (r38 : Bool) =>
  ite' (!r38) (
  J26 true) <|
  ld [.int .u64] ⟨n19, 3⟩ fun (x39 : Int) =>
  J26 (x39 != (if y8.2.2.1 > (if (4611686018427387904:Int) < r13 then (4611686018427387904:Int) else r13) then y8.2.2.1 else (if (4611686018427387904:Int) < r13 then (4611686018427387904:Int) else r13)))) <|
  ld [.int .u64] ⟨n19, 3⟩ fun (x40 : Int) =>
  J26 (x40 != (if y8.2.2.1 > (if (4611686018427387904:Int) < r13 then (4611686018427387904:Int) else r13) then y8.2.2.1 else (if (4611686018427387904:Int) < r13 then (4611686018427387904:Int) else r13)))) fun (y27 : Bool) =>
  ite' y27 (
  R false) <|
  drw <|
  ld [.int .u64] ⟨n19, 3⟩ fun (x41 : Int) =>
  ld [.int .i64] ⟨n19, 2⟩ fun (x42 : Int) =>
  call Tryz.prog N_canterref01_Delay [.lf (.int .i64 x42), .lf (.int .u64 r17.2.2.1)] [.lf (.int .u64)] fun (r43 : Int) =>
  chk ⟨n19, 3⟩ (Ks.mk [.int .u64] x41) <|
  call Tryz.prog N_canterref01_Add [.lf (.int .u64 x41), .lf (.int .u64 r43)] [.lf (.int .u64)] fun (r44 : Int) =>
  ld [.bool] ⟨n19, 4⟩ fun (x45 : Bool) =>
  ite' (!x45) (
  drw <|
  ld [.int .u64, .int .u64] ⟨n25, 0⟩ fun (x46 : Int × Int) =>
  ld [.int .u64] ⟨n25, 1⟩ fun (x47 : Int) =>
  new [.int .u64 x46.1, .int .u64 x46.2] fun n48 =>
  chk ⟨n25, 1⟩ (Ks.mk [.int .u64] x47) <|
  app 2 y8.2.2.2.1 ⟨some ⟨n48, 0⟩, 1, 1⟩ fun s49 =>
  chk ⟨n25, 1⟩ (Ks.mk [.int .u64] x47) <|
  chk ⟨n25, 1⟩ (Ks.mk [.int .u64] x47) <|
  J7 ((if (4611686018427387904:Int) < r13 then (4611686018427387904:Int) else r13), x47, r44, s49, (IntKind.i64.wrap (y8.2.2.2.2 + (1:Int))))) <|
  J7 ((if (4611686018427387904:Int) < r13 then (4611686018427387904:Int) else r13), y8.2.1, r44, y8.2.2.2.1, (IntKind.i64.wrap (y8.2.2.2.2 + (1:Int))))) <|
  ite' (x14 == (3:Int)) (
  ld [.sl] ⟨n11, 4⟩ fun (x50 : Sl) =>
  ite' (decide (((x50.len : Nat) : Int) ≤ (8:Int))) (
  ld [.int .u64] ⟨n11, 3⟩ fun (x51 : Int) =>
  ld [.sl] ⟨n11, 4⟩ fun (x52 : Sl) =>
  call Tryz.prog N_sock_Sock_Ack [.lf (.ptr r5), .lf (.int .u64 (if (4611686018427387904:Int) < r13 then (4611686018427387904:Int) else r13)), .lf (.int .u64 x51), .lf (.sl x52)] [.lf (.int .i64)] fun (r53 : Int) =>
  J7 ((if (4611686018427387904:Int) < r13 then (4611686018427387904:Int) else r13), y8.2.1, y8.2.2.1, y8.2.2.2.1, (IntKind.i64.wrap (y8.2.2.2.2 + (1:Int))))) <|
  J7 ((if (4611686018427387904:Int) < r13 then (4611686018427387904:Int) else r13), y8.2.1, y8.2.2.1, y8.2.2.2.1, (IntKind.i64.wrap (y8.2.2.2.2 + (1:Int))))) <|
  ite' (x14 == (4:Int)) (
  call Tryz.prog N_sock_Sock_Lose [.lf (.ptr r5), .lf (.int .u64 (if (4611686018427387904:Int) < r13 then (4611686018427387904:Int) else r13))] [.lf (.int .i64)] fun (r54 : Int) =>
  J7 ((if (4611686018427387904:Int) < r13 then (4611686018427387904:Int) else r13), y8.2.1, y8.2.2.1, y8.2.2.2.1, (IntKind.i64.wrap (y8.2.2.2.2 + (1:Int))))) <|
  ld [.int .i64] ⟨n11, 1⟩ fun (x55 : Int) =>
  call Tryz.prog N_sock_Sock_Write [.lf (.ptr r5), .lf (.int .i64 (IntKind.i64.wrap ((1:Int) + (IntKind.i64.wrap ((IntKind.u64.wrap x55).tmod (100000:Int))))))] [.lf (.int .i64)] fun (r56 : Int) =>
  J7 ((if (4611686018427387904:Int) < r13 then (4611686018427387904:Int) else r13), y8.2.1, y8.2.2.1, y8.2.2.2.1, (IntKind.i64.wrap (y8.2.2.2.2 + (1:Int))))) <|
  R true
theorem sem_canterlaw25_SockOrder (d : T_i4u2bi2) (o : Sl) (R : Rs.T [.lf .bool] → WP) : Same (semF Tryz.prog Tryz.f4 (.s .o (.s .o (.s .o (.s (.s .o (.s (.s .o .o) .o)) (.s .o (.s .o (.s (.s .o (.b (.l [(6, .lf (.int .u64)), (7, .lf (.int .u64)), (8, .lf (.int .u64)), (9, .lf .sl), (10, .lf (.int .i64))] (.s (.s .o (.s .o .o)) (.s (.b (.s .o (.s .o (.s .o (.b (.j [(56, .lf .bool)] (.s .o (.s .o (.s .o (.s .o .o)))) (.s (.s .o (.s .o (.s (.s .o (.s (.s .o .o) .o)) (.s .o (.s (.j [(117, .lf .bool)] .o (.s (.s .o .o) .o)) (.s (.d (.f 0 [13] (.f 2 [13] (.f 4 [12] (.f 1 [118] (.f 3 [120] (.w 5 [121, 122] (.w 6 [119, 123] (.w 7 [124] .fin))))))))) (.s .o (.s (.d (.f 0 [9] (.f 1 [15] (.f 4 [15] (.f 5 [132] (.w 2 [129] (.w 3 [128, 130] (.w 6 [131] (.w 7 [133] .fin))))))))) .o)))))))) (.s .o (.s (.s .o (.s .o .o)) (.s .o (.s .o .o))))))))))) .o))))) (.s .o .o)))))))) [.agg (Ks.mk K_i4u2bi2 d), .lf (.sl o)] [.lf .bool] R) (fun w => W_canterlaw25_SockOrder d o R w) := ⟨by kernel_rfl⟩
theorem call_canterlaw25_SockOrder (d : T_i4u2bi2) (o : Sl) (R : Rs.T [.lf .bool] → WP) (w : World) (h : W_canterlaw25_SockOrder d o R w) :
    CallX Tryz.prog N_canterlaw25_SockOrder ([.agg (Ks.mk K_i4u2bi2 d), .lf (.sl o)].map V1.enc) w fun v w' => ∃ x, v = (retTV (Rs.mk [.lf .bool] x)).enc ∧ R x w' :=
  callX_of_semF Tryz.func4 (by kernel_rfl) (by kernel_rfl) (sem_canterlaw25_SockOrder d o R) h


/-- canter/canterlaw25.awake -/
def W_canterlaw25_awake  (R : Rs.T [.lf .bool] → WP) : WP :=
  call Tryz.prog N_canterref20_Plain [] [.agg K_i4u2bi2] fun (r1 : T_i4u2bi2) =>
  call Tryz.prog N_sock_New [.lf (.int .i64 (1:Int)), .agg (Ks.mk K_i4u2bi2 r1)] [.lf .ptr] fun (r2 : Option Pt) =>
  join [] (fun J3 =>
  ite' r2.isNone (
  R false) <|
  call Tryz.prog N_sock_Sock_Write [.lf (.ptr r2), .lf (.int .i64 (100:Int))] [.lf (.int .i64)] fun (r5 : Int) =>
  ite' (r5 != (0:Int)) (
  R false) <|
  J3 ()) fun (y4 : Unit) =>
  call Tryz.prog N_sock_Sock_Emit [.lf (.ptr r2), .lf (.int .u64 (5:Int))] [.agg K_iuiub, .lf (.int .i64)] fun (r6 : T_iuiub × Int) =>
  new [.int .i64 (0:Int), .int .u64 (0:Int), .int .i64 (0:Int), .int .u64 (0:Int), .bool false] fun n7 =>
  st ⟨n7, 0⟩ (Ks.mk K_iuiub r6.1) <|
  ite' (r6.2 == (0:Int)) (
  ld K_iuiub ⟨n7, 0⟩ fun (x8 : T_iuiub) =>
  ite' ((x8.1 == (1:Int)) && ((x8.2.1 == (0:Int)) && ((x8.2.2.1 == (100:Int)) && ((x8.2.2.2.1 == (5:Int)) && (x8.2.2.2.2 == false))))) (
  call Tryz.prog N_sock_Sock_Out [.lf (.ptr r2)] [.lf (.int .u64)] fun (r9 : Int) =>
  ite' (r9 == (100:Int)) (
  call Tryz.prog N_sock_Sock_Flight [.lf (.ptr r2)] [.lf (.int .u64)] fun (r10 : Int) =>
  R (r10 == (100:Int))) <|
  R false) <|
  R false) <|
  R false
theorem sem_canterlaw25_awake  (R : Rs.T [.lf .bool] → WP) : Same (semF Tryz.prog Tryz.f10 (.s .o (.s .o (.j [] (.s .o (.s (.s .o .o) .o)) (.s .o (.s .o .o))))) [] [.lf .bool] R) (fun w => W_canterlaw25_awake  R w) := ⟨by kernel_rfl⟩
theorem call_canterlaw25_awake  (R : Rs.T [.lf .bool] → WP) (w : World) (h : W_canterlaw25_awake  R w) :
    CallX Tryz.prog N_canterlaw25_awake ([].map V1.enc) w fun v w' => ∃ x, v = (retTV (Rs.mk [.lf .bool] x)).enc ∧ R x w' :=
  callX_of_semF Tryz.func10 (by kernel_rfl) (by kernel_rfl) (sem_canterlaw25_awake  R) h


/-- canter/canterplay.Config -/
def W_canterplay_Config (d : T_i4u2bi2) (R : Rs.T [.agg K_i4u2bi2] → WP) : WP :=
  new (Ks.mk K_i4u2bi2 d) fun n1 =>
  new [.int .i64 (0:Int), .int .i64 (0:Int), .int .i64 (0:Int), .int .i64 (0:Int), .int .u64 (0:Int), .int .u64 (0:Int), .bool false, .int .i64 (0:Int), .int .i64 (0:Int)] fun n2 =>
  call Tryz.prog N_canterref20_Plain [] [.agg K_i4u2bi2] fun (r3 : T_i4u2bi2) =>
  new [.int .i64 (0:Int), .int .i64 (0:Int), .int .i64 (0:Int), .int .i64 (0:Int), .int .u64 (0:Int), .int .u64 (0:Int), .bool false, .int .i64 (0:Int), .int .i64 (0:Int)] fun n4 =>
  st ⟨n4, 0⟩ (Ks.mk K_i4u2bi2 r3) <|
  join [] (fun J5 =>
  join [.bool] (fun J7 =>
  ld [.int .i64] ⟨n1, 0⟩ fun (x9 : Int) =>
  ite' (decide (x9 ≥ (100:Int))) (
  ld [.int .i64] ⟨n1, 0⟩ fun (x10 : Int) =>
  J7 (decide (x10 ≤ (65536:Int)))) <|
  J7 false) fun (y8 : Bool) =>
  ite' y8 (
  ld [.int .i64] ⟨n1, 0⟩ fun (x11 : Int) =>
  st ⟨n4, 0⟩ [.int .i64 x11] <|
  J5 ()) <|
  J5 ()) fun (y6 : Unit) =>
  join [] (fun J12 =>
  join [.bool] (fun J14 =>
  ld [.int .i64] ⟨n1, 1⟩ fun (x16 : Int) =>
  ite' (decide (x16 ≥ (100:Int))) (
  ld [.int .i64] ⟨n1, 1⟩ fun (x17 : Int) =>
  J14 (decide (x17 ≤ (65536:Int)))) <|
  J14 false) fun (y15 : Bool) =>
  ite' y15 (
  ld [.int .i64] ⟨n1, 1⟩ fun (x18 : Int) =>
  st ⟨n4, 1⟩ [.int .i64 x18] <|
  J12 ()) <|
  J12 ()) fun (y13 : Unit) =>
  join [] (fun J19 =>
  join [.bool] (fun J21 =>
  ld [.int .i64] ⟨n1, 2⟩ fun (x23 : Int) =>
  ite' (decide (x23 ≥ (1:Int))) (
  ld [.int .i64] ⟨n1, 2⟩ fun (x24 : Int) =>
  J21 (decide (x24 ≤ (512:Int)))) <|
  J21 false) fun (y22 : Bool) =>
  ite' y22 (
  ld [.int .i64] ⟨n1, 2⟩ fun (x25 : Int) =>
  st ⟨n4, 2⟩ [.int .i64 x25] <|
  J19 ()) <|
  J19 ()) fun (y20 : Unit) =>
  join [] (fun J26 =>
  join [.bool] (fun J28 =>
  ld [.int .i64] ⟨n1, 3⟩ fun (x30 : Int) =>
  ite' (decide (x30 ≥ (1:Int))) (
  ld [.int .i64] ⟨n1, 3⟩ fun (x31 : Int) =>
  J28 (decide (x31 ≤ (512:Int)))) <|
  J28 false) fun (y29 : Bool) =>
  ite' y29 (
  ld [.int .i64] ⟨n1, 3⟩ fun (x32 : Int) =>
  st ⟨n4, 3⟩ [.int .i64 x32] <|
  J26 ()) <|
  J26 ()) fun (y27 : Unit) =>
  join [] (fun J33 =>
  ld [.int .u64] ⟨n1, 4⟩ fun (x35 : Int) =>
  ite' (decide (x35 ≤ (4611686018427387904:Int))) (
  ld [.int .u64] ⟨n1, 4⟩ fun (x36 : Int) =>
  st ⟨n4, 4⟩ [.int .u64 x36] <|
  J33 ()) <|
  J33 ()) fun (y34 : Unit) =>
  join [] (fun J37 =>
  join [.bool] (fun J39 =>
  ld [.int .i64] ⟨n1, 7⟩ fun (x41 : Int) =>
  ite' (decide (x41 ≥ (1:Int))) (
  ld [.int .i64] ⟨n1, 7⟩ fun (x42 : Int) =>
  J39 (decide (x42 ≤ (1073741824:Int)))) <|
  J39 false) fun (y40 : Bool) =>
  ite' y40 (
  ld [.int .i64] ⟨n1, 7⟩ fun (x43 : Int) =>
  st ⟨n4, 7⟩ [.int .i64 x43] <|
  J37 ()) <|
  J37 ()) fun (y38 : Unit) =>
  join [] (fun J44 =>
  join [.bool] (fun J46 =>
  ld [.int .i64] ⟨n1, 8⟩ fun (x48 : Int) =>
  ite' (decide (x48 ≥ (100:Int))) (
  ld [.int .i64] ⟨n1, 8⟩ fun (x49 : Int) =>
  J46 (decide (x49 ≤ (9000:Int)))) <|
  J46 false) fun (y47 : Bool) =>
  ite' y47 (
  ld [.int .i64] ⟨n1, 8⟩ fun (x50 : Int) =>
  st ⟨n4, 8⟩ [.int .i64 x50] <|
  J44 ()) <|
  J44 ()) fun (y45 : Unit) =>
  drw <|
  ld [.int .u64] ⟨n1, 5⟩ fun (x51 : Int) =>
  ld [.bool] ⟨n1, 6⟩ fun (x52 : Bool) =>
  st ⟨n4, 5⟩ [.int .u64 x51] <|
  chk ⟨n1, 6⟩ (Ks.mk [.bool] x52) <|
  st ⟨n4, 6⟩ [.bool x52] <|
  ld K_i4u2bi2 ⟨n4, 0⟩ fun (x53 : T_i4u2bi2) =>
  st ⟨n2, 0⟩ (Ks.mk K_i4u2bi2 x53) <|
  ld K_i4u2bi2 ⟨n2, 0⟩ fun (x54 : T_i4u2bi2) =>
  R x54
theorem sem_canterplay_Config (d : T_i4u2bi2) (R : Rs.T [.agg K_i4u2bi2] → WP) : Same (semF Tryz.prog Tryz.f18 (.s .o (.s .o (.j [] (.j [(12, .lf .bool)] .o (.s .o .o)) (.j [] (.j [(23, .lf .bool)] .o (.s .o .o)) (.j [] (.j [(34, .lf .bool)] .o (.s .o .o)) (.j [] (.j [(45, .lf .bool)] .o (.s .o .o)) (.j [] (.s .o (.s .o .o)) (.j [] (.j [(62, .lf .bool)] .o (.s .o .o)) (.j [] (.j [(73, .lf .bool)] .o (.s .o .o)) (.s (.d (.f 0 [1] (.f 2 [1] (.f 1 [77] (.f 3 [79] (.f 4 [3] (.w 5 [78, 81] (.f 6 [3] (.w 7 [80, 82] .fin))))))))) (.s .o .o))))))))))) [.agg (Ks.mk K_i4u2bi2 d)] [.agg K_i4u2bi2] R) (fun w => W_canterplay_Config d R w) := ⟨by kernel_rfl⟩
theorem call_canterplay_Config (d : T_i4u2bi2) (R : Rs.T [.agg K_i4u2bi2] → WP) (w : World) (h : W_canterplay_Config d R w) :
    CallX Tryz.prog N_canterplay_Config ([.agg (Ks.mk K_i4u2bi2 d)].map V1.enc) w fun v w' => ∃ x, v = (retTV (Rs.mk [.agg K_i4u2bi2] x)).enc ∧ R x w' :=
  callX_of_semF Tryz.func18 (by kernel_rfl) (by kernel_rfl) (sem_canterplay_Config d R) h


/-- canter/canterref01.Add -/
def W_canterref01_Add (a : Int) (b : Int) (R : Rs.T [.lf (.int .u64)] → WP) : WP :=
  ite' (decide (a > (IntKind.u64.wrap ((18446744073709551615:Int) - b)))) (
  R (18446744073709551615:Int)) <|
  R (IntKind.u64.wrap (a + b))
theorem sem_canterref01_Add (a : Int) (b : Int) (R : Rs.T [.lf (.int .u64)] → WP) : Same (semF Tryz.prog Tryz.f19 (.s .o (.s (.s .o (.s (.s .o .o) .o)) (.s .o .o))) [.lf (.int .u64 a), .lf (.int .u64 b)] [.lf (.int .u64)] R) (fun w => W_canterref01_Add a b R w) := ⟨by kernel_rfl⟩
theorem call_canterref01_Add (a : Int) (b : Int) (R : Rs.T [.lf (.int .u64)] → WP) (w : World) (h : W_canterref01_Add a b R w) :
    CallX Tryz.prog N_canterref01_Add ([.lf (.int .u64 a), .lf (.int .u64 b)].map V1.enc) w fun v w' => ∃ x, v = (retTV (Rs.mk [.lf (.int .u64)] x)).enc ∧ R x w' :=
  callX_of_semF Tryz.func19 (by kernel_rfl) (by kernel_rfl) (sem_canterref01_Add a b R) h


/-- canter/canterref01.Delay -/
def W_canterref01_Delay (size : Int) (rate : Int) (R : Rs.T [.lf (.int .u64)] → WP) : WP :=
  ite' ((decide (size < (1:Int))) || (rate == (18446744073709551615:Int))) (
  R (0:Int)) <|
  call Tryz.prog N_canterref01_MulDiv [.lf (.int .u64 (IntKind.u64.wrap size)), .lf (.int .u64 (1000000000:Int)), .lf (.int .u64 rate)] [.lf (.int .u64)] fun (r1 : Int) =>
  R (if (1000000000:Int) < r1 then (1000000000:Int) else r1)
theorem sem_canterref01_Delay (size : Int) (rate : Int) (R : Rs.T [.lf (.int .u64)] → WP) : Same (semF Tryz.prog Tryz.f22 (.s .o (.s (.s .o (.s (.s .o .o) .o)) (.s .o .o))) [.lf (.int .i64 size), .lf (.int .u64 rate)] [.lf (.int .u64)] R) (fun w => W_canterref01_Delay size rate R w) := ⟨by kernel_rfl⟩
theorem call_canterref01_Delay (size : Int) (rate : Int) (R : Rs.T [.lf (.int .u64)] → WP) (w : World) (h : W_canterref01_Delay size rate R w) :
    CallX Tryz.prog N_canterref01_Delay ([.lf (.int .i64 size), .lf (.int .u64 rate)].map V1.enc) w fun v w' => ∃ x, v = (retTV (Rs.mk [.lf (.int .u64)] x)).enc ∧ R x w' :=
  callX_of_semF Tryz.func22 (by kernel_rfl) (by kernel_rfl) (sem_canterref01_Delay size rate R) h


/-- canter/canterref01.Div -/
def W_canterref01_Div (hi : Int) (lo : Int) (c : Int) (R : Rs.T [.lf (.int .u64), .lf (.int .i64)] → WP) : WP :=
  ite' (c == (0:Int)) (
  R ((0:Int), (1:Int))) <|
  ite' (decide (hi ≥ c)) (
  R ((0:Int), (3:Int))) <|
  loop K_u3i (lo, (0:Int), hi, (0:Int)) fun J1 (y2 : T_u3i) =>
  ite' (decide (y2.2.2.2 < (64:Int))) (
  req (0 ≤ (63:Int)) <|
  req (0 ≤ (1:Int)) <|
  req (0 ≤ (63:Int)) <|
  req (0 ≤ (1:Int)) <|
  req (0 ≤ (1:Int)) <|
  ite' (((y2.2.2.1.fdiv (2 ^ min (63:Int).toNat IntKind.u64.bits)) == (1:Int)) || (decide ((IntKind.u64.wrap (BitVec.ofInt IntKind.u64.bits (IntKind.u64.wrap (y2.2.2.1 * 2 ^ min (1:Int).toNat IntKind.u64.bits)) ||| BitVec.ofInt IntKind.u64.bits (y2.1.fdiv (2 ^ min (63:Int).toNat IntKind.u64.bits))).toNat) ≥ c))) (
  J1 ((IntKind.u64.wrap (y2.1 * 2 ^ min (1:Int).toNat IntKind.u64.bits)), (IntKind.u64.wrap (BitVec.ofInt IntKind.u64.bits (IntKind.u64.wrap (y2.2.1 * 2 ^ min (1:Int).toNat IntKind.u64.bits)) ||| BitVec.ofInt IntKind.u64.bits (1:Int)).toNat), (IntKind.u64.wrap ((IntKind.u64.wrap (BitVec.ofInt IntKind.u64.bits (IntKind.u64.wrap (y2.2.2.1 * 2 ^ min (1:Int).toNat IntKind.u64.bits)) ||| BitVec.ofInt IntKind.u64.bits (y2.1.fdiv (2 ^ min (63:Int).toNat IntKind.u64.bits))).toNat) - c)), (IntKind.i64.wrap (y2.2.2.2 + (1:Int))))) <|
  J1 ((IntKind.u64.wrap (y2.1 * 2 ^ min (1:Int).toNat IntKind.u64.bits)), (IntKind.u64.wrap (y2.2.1 * 2 ^ min (1:Int).toNat IntKind.u64.bits)), (IntKind.u64.wrap (BitVec.ofInt IntKind.u64.bits (IntKind.u64.wrap (y2.2.2.1 * 2 ^ min (1:Int).toNat IntKind.u64.bits)) ||| BitVec.ofInt IntKind.u64.bits (y2.1.fdiv (2 ^ min (63:Int).toNat IntKind.u64.bits))).toNat), (IntKind.i64.wrap (y2.2.2.2 + (1:Int))))) <|
  R (y2.2.1, (0:Int))
theorem sem_canterref01_Div (hi : Int) (lo : Int) (c : Int) (R : Rs.T [.lf (.int .u64), .lf (.int .i64)] → WP) : Same (semF Tryz.prog Tryz.f52 (.s .o (.s (.s .o (.s (.s .o .o) .o)) (.s (.s .o (.s (.s .o .o) .o)) (.s .o (.s (.s .o (.b (.l [(1, .lf (.int .u64)), (8, .lf (.int .u64)), (9, .lf (.int .u64)), (10, .lf (.int .i64))] (.s (.s .o (.s .o .o)) (.s (.b (.s .o (.s .o (.s .o (.s .o (.s .o (.s (.s .o .o) .o))))))) .o))))) (.s .o .o)))))) [.lf (.int .u64 hi), .lf (.int .u64 lo), .lf (.int .u64 c)] [.lf (.int .u64), .lf (.int .i64)] R) (fun w => W_canterref01_Div hi lo c R w) := ⟨by kernel_rfl⟩
theorem call_canterref01_Div (hi : Int) (lo : Int) (c : Int) (R : Rs.T [.lf (.int .u64), .lf (.int .i64)] → WP) (w : World) (h : W_canterref01_Div hi lo c R w) :
    CallX Tryz.prog N_canterref01_Div ([.lf (.int .u64 hi), .lf (.int .u64 lo), .lf (.int .u64 c)].map V1.enc) w fun v w' => ∃ x, v = (retTV (Rs.mk [.lf (.int .u64), .lf (.int .i64)] x)).enc ∧ R x w' :=
  callX_of_semF Tryz.func52 (by kernel_rfl) (by kernel_rfl) (sem_canterref01_Div hi lo c R) h


/-- canter/canterref01.MulDiv -/
def W_canterref01_MulDiv (a : Int) (b : Int) (c : Int) (R : Rs.T [.lf (.int .u64)] → WP) : WP :=
  call Tryz.prog N_canterref01_Wide [.lf (.int .u64 a), .lf (.int .u64 b)] [.lf (.int .u64), .lf (.int .u64)] fun (r1 : Int × Int) =>
  ite' ((r1.1 == (0:Int)) && (r1.2 == (0:Int))) (
  R (0:Int)) <|
  call Tryz.prog N_canterref01_Div [.lf (.int .u64 r1.1), .lf (.int .u64 r1.2), .lf (.int .u64 c)] [.lf (.int .u64), .lf (.int .i64)] fun (r2 : Int × Int) =>
  ite' (r2.2 != (0:Int)) (
  R (18446744073709551615:Int)) <|
  R r2.1
theorem sem_canterref01_MulDiv (a : Int) (b : Int) (c : Int) (R : Rs.T [.lf (.int .u64)] → WP) : Same (semF Tryz.prog Tryz.f16 (.s .o (.s .o (.s (.s .o (.s (.s .o .o) .o)) (.s .o (.s (.s .o (.s (.s .o .o) .o)) (.s .o .o)))))) [.lf (.int .u64 a), .lf (.int .u64 b), .lf (.int .u64 c)] [.lf (.int .u64)] R) (fun w => W_canterref01_MulDiv a b c R w) := ⟨by kernel_rfl⟩
theorem call_canterref01_MulDiv (a : Int) (b : Int) (c : Int) (R : Rs.T [.lf (.int .u64)] → WP) (w : World) (h : W_canterref01_MulDiv a b c R w) :
    CallX Tryz.prog N_canterref01_MulDiv ([.lf (.int .u64 a), .lf (.int .u64 b), .lf (.int .u64 c)].map V1.enc) w fun v w' => ∃ x, v = (retTV (Rs.mk [.lf (.int .u64)] x)).enc ∧ R x w' :=
  callX_of_semF Tryz.func16 (by kernel_rfl) (by kernel_rfl) (sem_canterref01_MulDiv a b c R) h


/-- canter/canterref01.Wide -/
def W_canterref01_Wide (a : Int) (b : Int) (R : Rs.T [.lf (.int .u64), .lf (.int .u64)] → WP) : WP :=
  req (0 ≤ (32:Int)) <|
  req (0 ≤ (32:Int)) <|
  req (0 ≤ (32:Int)) <|
  req (0 ≤ (32:Int)) <|
  req (0 ≤ (32:Int)) <|
  req (0 ≤ (32:Int)) <|
  req (0 ≤ (32:Int)) <|
  R ((IntKind.u64.wrap ((IntKind.u64.wrap ((IntKind.u64.wrap ((IntKind.u64.wrap ((a.fdiv (2 ^ min (32:Int).toNat IntKind.u64.bits)) * (b.fdiv (2 ^ min (32:Int).toNat IntKind.u64.bits)))) + ((IntKind.u64.wrap ((a.fdiv (2 ^ min (32:Int).toNat IntKind.u64.bits)) * (IntKind.u64.wrap (BitVec.ofInt IntKind.u64.bits b &&& BitVec.ofInt IntKind.u64.bits (4294967295:Int)).toNat))).fdiv (2 ^ min (32:Int).toNat IntKind.u64.bits)))) + ((IntKind.u64.wrap ((IntKind.u64.wrap (BitVec.ofInt IntKind.u64.bits a &&& BitVec.ofInt IntKind.u64.bits (4294967295:Int)).toNat) * (b.fdiv (2 ^ min (32:Int).toNat IntKind.u64.bits)))).fdiv (2 ^ min (32:Int).toNat IntKind.u64.bits)))) + ((IntKind.u64.wrap ((IntKind.u64.wrap (((IntKind.u64.wrap ((IntKind.u64.wrap (BitVec.ofInt IntKind.u64.bits a &&& BitVec.ofInt IntKind.u64.bits (4294967295:Int)).toNat) * (IntKind.u64.wrap (BitVec.ofInt IntKind.u64.bits b &&& BitVec.ofInt IntKind.u64.bits (4294967295:Int)).toNat))).fdiv (2 ^ min (32:Int).toNat IntKind.u64.bits)) + (IntKind.u64.wrap (BitVec.ofInt IntKind.u64.bits (IntKind.u64.wrap ((a.fdiv (2 ^ min (32:Int).toNat IntKind.u64.bits)) * (IntKind.u64.wrap (BitVec.ofInt IntKind.u64.bits b &&& BitVec.ofInt IntKind.u64.bits (4294967295:Int)).toNat))) &&& BitVec.ofInt IntKind.u64.bits (4294967295:Int)).toNat))) + (IntKind.u64.wrap (BitVec.ofInt IntKind.u64.bits (IntKind.u64.wrap ((IntKind.u64.wrap (BitVec.ofInt IntKind.u64.bits a &&& BitVec.ofInt IntKind.u64.bits (4294967295:Int)).toNat) * (b.fdiv (2 ^ min (32:Int).toNat IntKind.u64.bits)))) &&& BitVec.ofInt IntKind.u64.bits (4294967295:Int)).toNat))).fdiv (2 ^ min (32:Int).toNat IntKind.u64.bits)))), (IntKind.u64.wrap (BitVec.ofInt IntKind.u64.bits (IntKind.u64.wrap ((IntKind.u64.wrap ((IntKind.u64.wrap (((IntKind.u64.wrap ((IntKind.u64.wrap (BitVec.ofInt IntKind.u64.bits a &&& BitVec.ofInt IntKind.u64.bits (4294967295:Int)).toNat) * (IntKind.u64.wrap (BitVec.ofInt IntKind.u64.bits b &&& BitVec.ofInt IntKind.u64.bits (4294967295:Int)).toNat))).fdiv (2 ^ min (32:Int).toNat IntKind.u64.bits)) + (IntKind.u64.wrap (BitVec.ofInt IntKind.u64.bits (IntKind.u64.wrap ((a.fdiv (2 ^ min (32:Int).toNat IntKind.u64.bits)) * (IntKind.u64.wrap (BitVec.ofInt IntKind.u64.bits b &&& BitVec.ofInt IntKind.u64.bits (4294967295:Int)).toNat))) &&& BitVec.ofInt IntKind.u64.bits (4294967295:Int)).toNat))) + (IntKind.u64.wrap (BitVec.ofInt IntKind.u64.bits (IntKind.u64.wrap ((IntKind.u64.wrap (BitVec.ofInt IntKind.u64.bits a &&& BitVec.ofInt IntKind.u64.bits (4294967295:Int)).toNat) * (b.fdiv (2 ^ min (32:Int).toNat IntKind.u64.bits)))) &&& BitVec.ofInt IntKind.u64.bits (4294967295:Int)).toNat))) * 2 ^ min (32:Int).toNat IntKind.u64.bits)) ||| BitVec.ofInt IntKind.u64.bits (IntKind.u64.wrap (BitVec.ofInt IntKind.u64.bits (IntKind.u64.wrap ((IntKind.u64.wrap (BitVec.ofInt IntKind.u64.bits a &&& BitVec.ofInt IntKind.u64.bits (4294967295:Int)).toNat) * (IntKind.u64.wrap (BitVec.ofInt IntKind.u64.bits b &&& BitVec.ofInt IntKind.u64.bits (4294967295:Int)).toNat))) &&& BitVec.ofInt IntKind.u64.bits (4294967295:Int)).toNat)).toNat))
theorem sem_canterref01_Wide (a : Int) (b : Int) (R : Rs.T [.lf (.int .u64), .lf (.int .u64)] → WP) : Same (semF Tryz.prog Tryz.f51 (.s .o (.s .o (.s .o (.s .o (.s .o (.s .o .o)))))) [.lf (.int .u64 a), .lf (.int .u64 b)] [.lf (.int .u64), .lf (.int .u64)] R) (fun w => W_canterref01_Wide a b R w) := ⟨by kernel_rfl⟩
theorem call_canterref01_Wide (a : Int) (b : Int) (R : Rs.T [.lf (.int .u64), .lf (.int .u64)] → WP) (w : World) (h : W_canterref01_Wide a b R w) :
    CallX Tryz.prog N_canterref01_Wide ([.lf (.int .u64 a), .lf (.int .u64 b)].map V1.enc) w fun v w' => ∃ x, v = (retTV (Rs.mk [.lf (.int .u64), .lf (.int .u64)] x)).enc ∧ R x w' :=
  callX_of_semF Tryz.func51 (by kernel_rfl) (by kernel_rfl) (sem_canterref01_Wide a b R) h


/-- canter/canterref20.Plain -/
def W_canterref20_Plain  (R : Rs.T [.agg K_i4u2bi2] → WP) : WP :=
  new [.int .i64 (0:Int), .int .i64 (0:Int), .int .i64 (0:Int), .int .i64 (0:Int), .int .u64 (0:Int), .int .u64 (0:Int), .bool false, .int .i64 (0:Int), .int .i64 (0:Int)] fun n1 =>
  st ⟨n1, 0⟩ [.int .i64 (3000:Int), .int .i64 (15000:Int), .int .i64 (100:Int), .int .i64 (50:Int), .int .u64 (10000000000:Int), .int .u64 (0:Int), .bool false, .int .i64 (100000:Int), .int .i64 (1000:Int)] <|
  ld K_i4u2bi2 ⟨n1, 0⟩ fun (x2 : T_i4u2bi2) =>
  R x2
theorem sem_canterref20_Plain  (R : Rs.T [.agg K_i4u2bi2] → WP) : Same (semF Tryz.prog Tryz.f9 (.s .o (.s .o .o)) [] [.agg K_i4u2bi2] R) (fun w => W_canterref20_Plain  R w) := ⟨by kernel_rfl⟩
theorem call_canterref20_Plain  (R : Rs.T [.agg K_i4u2bi2] → WP) (w : World) (h : W_canterref20_Plain  R w) :
    CallX Tryz.prog N_canterref20_Plain ([].map V1.enc) w fun v w' => ∃ x, v = (retTV (Rs.mk [.agg K_i4u2bi2] x)).enc ∧ R x w' :=
  callX_of_semF Tryz.func9 (by kernel_rfl) (by kernel_rfl) (sem_canterref20_Plain  R) h


/-- (*canter/cycle.Cycle).Gain -/
def W_cycle_Cycle_Gain (c : Option Pt) (R : Rs.T [.lf (.int .u64)] → WP) : WP :=
  ite' (!c.isNone) (
  deref c fun q1 =>
  ld [.int .i64] q1 fun (x2 : Int) =>
  ite' (x2 == (0:Int)) (
  R (320:Int)) <|
  ite' (x2 == (1:Int)) (
  R (192:Int)) <|
  R (256:Int)) <|
  R (256:Int)
theorem sem_cycle_Cycle_Gain (c : Option Pt) (R : Rs.T [.lf (.int .u64)] → WP) : Same (semF Tryz.prog Tryz.f124 (.s .o (.s (.s .o (.s (.s .o (.b (.s .o (.s (.s .o .o) (.s .o (.s (.s .o .o) .o)))))) .o)) (.s .o .o))) [.lf (.ptr c)] [.lf (.int .u64)] R) (fun w => W_cycle_Cycle_Gain c R w) := ⟨by kernel_rfl⟩
theorem call_cycle_Cycle_Gain (c : Option Pt) (R : Rs.T [.lf (.int .u64)] → WP) (w : World) (h : W_cycle_Cycle_Gain c R w) :
    CallX Tryz.prog N_cycle_Cycle_Gain ([.lf (.ptr c)].map V1.enc) w fun v w' => ∃ x, v = (retTV (Rs.mk [.lf (.int .u64)] x)).enc ∧ R x w' :=
  callX_of_semF Tryz.func124 (by kernel_rfl) (by kernel_rfl) (sem_cycle_Cycle_Gain c R) h


/-- (*canter/cycle.Cycle).Phase -/
def W_cycle_Cycle_Phase (c : Option Pt) (R : Rs.T [.lf (.int .i64)] → WP) : WP :=
  ite' c.isNone (
  R (0:Int)) <|
  deref c fun q1 =>
  ld [.int .i64] q1 fun (x2 : Int) =>
  R x2
theorem sem_cycle_Cycle_Phase (c : Option Pt) (R : Rs.T [.lf (.int .i64)] → WP) : Same (semF Tryz.prog Tryz.f94 (.s .o (.s (.s .o (.s (.s .o .o) .o)) (.s .o .o))) [.lf (.ptr c)] [.lf (.int .i64)] R) (fun w => W_cycle_Cycle_Phase c R w) := ⟨by kernel_rfl⟩
theorem call_cycle_Cycle_Phase (c : Option Pt) (R : Rs.T [.lf (.int .i64)] → WP) (w : World) (h : W_cycle_Cycle_Phase c R w) :
    CallX Tryz.prog N_cycle_Cycle_Phase ([.lf (.ptr c)].map V1.enc) w fun v w' => ∃ x, v = (retTV (Rs.mk [.lf (.int .i64)] x)).enc ∧ R x w' :=
  callX_of_semF Tryz.func94 (by kernel_rfl) (by kernel_rfl) (sem_cycle_Cycle_Phase c R) h


/-- (*canter/cycle.Cycle).Start -/
def W_cycle_Cycle_Start (c : Option Pt) (now : Int) (phase : Int) (R : Rs.T [] → WP) : WP :=
  ite' (!c.isNone) (
  deref c fun q1 =>
  st q1 [.int .i64 ((IntKind.i64.wrap ((phase.tmod (8:Int)) + (8:Int))).tmod (8:Int))] <|
  deref c fun q2 =>
  st ⟨q2.b, q2.o + 1⟩ [.int .u64 now] <|
  R ()) <|
  R ()
theorem sem_cycle_Cycle_Start (c : Option Pt) (now : Int) (phase : Int) (R : Rs.T [] → WP) : Same (semF Tryz.prog Tryz.f162 (.s .o (.s .o .o)) [.lf (.ptr c), .lf (.int .u64 now), .lf (.int .i64 phase)] [] R) (fun w => W_cycle_Cycle_Start c now phase R w) := ⟨by kernel_rfl⟩
theorem call_cycle_Cycle_Start (c : Option Pt) (now : Int) (phase : Int) (R : Rs.T [] → WP) (w : World) (h : W_cycle_Cycle_Start c now phase R w) :
    CallX Tryz.prog N_cycle_Cycle_Start ([.lf (.ptr c), .lf (.int .u64 now), .lf (.int .i64 phase)].map V1.enc) w fun v w' => ∃ x, v = (retTV (Rs.mk [] x)).enc ∧ R x w' :=
  callX_of_semF Tryz.func162 (by kernel_rfl) (by kernel_rfl) (sem_cycle_Cycle_Start c now phase R) h


/-- (*canter/cycle.Cycle).Update -/
def W_cycle_Cycle_Update (c : Option Pt) (now : Int) (rtt : Int) (lost : Int) (flight : Int) (up : Int) (one : Int) (R : Rs.T [.lf .bool] → WP) : WP :=
  loop [.bool] false fun J1 (y2 : Bool) =>
  join [] (fun J3 =>
  ite' (!c.isNone) (
  deref c fun q5 =>
  ld [.int .u64] ⟨q5.b, q5.o + 1⟩ fun (x6 : Int) =>
  call Tryz.prog N_sat_Sub [.lf (.int .u64 now), .lf (.int .u64 x6)] [.lf (.int .u64)] fun (r7 : Int) =>
  call Tryz.prog N_cycle_Cycle_ends [.lf (.ptr c), .lf (.bool (decide (r7 > rtt))), .lf (.int .u64 lost), .lf (.int .u64 flight), .lf (.int .u64 up), .lf (.int .u64 one)] [.lf .bool] fun (r8 : Bool) =>
  ite' r8 (
  J3 ()) <|
  R y2) <|
  R y2) fun (y4 : Unit) =>
  deref c fun q9 =>
  ld [.int .i64] q9 fun (x10 : Int) =>
  call Tryz.prog N_cycle_Cycle_Start [.lf (.ptr c), .lf (.int .u64 now), .lf (.int .i64 (IntKind.i64.wrap (x10 + (1:Int))))] [] fun (r11 : Unit) =>
  R true
theorem sem_cycle_Cycle_Update (c : Option Pt) (now : Int) (rtt : Int) (lost : Int) (flight : Int) (up : Int) (one : Int) (R : Rs.T [.lf .bool] → WP) : Same (semF Tryz.prog Tryz.f131 (.s .o (.s .o (.s .o (.s (.b (.l [(15, .lf .bool)] (.j [] (.s .o (.s .o .o)) (.b (.s .o (.s .o .o)))))) (.s .o .o))))) [.lf (.ptr c), .lf (.int .u64 now), .lf (.int .u64 rtt), .lf (.int .u64 lost), .lf (.int .u64 flight), .lf (.int .u64 up), .lf (.int .u64 one)] [.lf .bool] R) (fun w => W_cycle_Cycle_Update c now rtt lost flight up one R w) := ⟨by kernel_rfl⟩
theorem call_cycle_Cycle_Update (c : Option Pt) (now : Int) (rtt : Int) (lost : Int) (flight : Int) (up : Int) (one : Int) (R : Rs.T [.lf .bool] → WP) (w : World) (h : W_cycle_Cycle_Update c now rtt lost flight up one R w) :
    CallX Tryz.prog N_cycle_Cycle_Update ([.lf (.ptr c), .lf (.int .u64 now), .lf (.int .u64 rtt), .lf (.int .u64 lost), .lf (.int .u64 flight), .lf (.int .u64 up), .lf (.int .u64 one)].map V1.enc) w fun v w' => ∃ x, v = (retTV (Rs.mk [.lf .bool] x)).enc ∧ R x w' :=
  callX_of_semF Tryz.func131 (by kernel_rfl) (by kernel_rfl) (sem_cycle_Cycle_Update c now rtt lost flight up one R) h


/-- (*canter/cycle.Cycle).ends -/
def W_cycle_Cycle_ends (c : Option Pt) (over : Bool) (lost : Int) (flight : Int) (up : Int) (one : Int) (R : Rs.T [.lf .bool] → WP) : WP :=
  deref c fun q1 =>
  ld [.int .i64] q1 fun (x2 : Int) =>
  ite' (x2 == (0:Int)) (
  R (over && ((decide (lost > (0:Int))) || (decide (flight ≥ up))))) <|
  ite' (x2 == (1:Int)) (
  R (over || (decide (flight ≤ one)))) <|
  R over
theorem sem_cycle_Cycle_ends (c : Option Pt) (over : Bool) (lost : Int) (flight : Int) (up : Int) (one : Int) (R : Rs.T [.lf .bool] → WP) : Same (semF Tryz.prog Tryz.f161 (.s .o (.s (.s .o (.b (.s .o (.s (.s .o .o) (.s .o (.s (.s .o .o) .o)))))) (.s .o .o))) [.lf (.ptr c), .lf (.bool over), .lf (.int .u64 lost), .lf (.int .u64 flight), .lf (.int .u64 up), .lf (.int .u64 one)] [.lf .bool] R) (fun w => W_cycle_Cycle_ends c over lost flight up one R w) := ⟨by kernel_rfl⟩
theorem call_cycle_Cycle_ends (c : Option Pt) (over : Bool) (lost : Int) (flight : Int) (up : Int) (one : Int) (R : Rs.T [.lf .bool] → WP) (w : World) (h : W_cycle_Cycle_ends c over lost flight up one R w) :
    CallX Tryz.prog N_cycle_Cycle_ends ([.lf (.ptr c), .lf (.bool over), .lf (.int .u64 lost), .lf (.int .u64 flight), .lf (.int .u64 up), .lf (.int .u64 one)].map V1.enc) w fun v w' => ∃ x, v = (retTV (Rs.mk [.lf .bool] x)).enc ∧ R x w' :=
  callX_of_semF Tryz.func161 (by kernel_rfl) (by kernel_rfl) (sem_cycle_Cycle_ends c over lost flight up one R) h


/-- canter/cycle.New -/
def W_cycle_New  (R : Rs.T [.lf .ptr] → WP) : WP :=
  new [.int .i64 (0:Int), .int .u64 (0:Int)] fun n1 =>
  R (some ⟨n1, 0⟩)
theorem sem_cycle_New  (R : Rs.T [.lf .ptr] → WP) : Same (semF Tryz.prog Tryz.f77 (.s .o (.s .o .o)) [] [.lf .ptr] R) (fun w => W_cycle_New  R w) := ⟨by kernel_rfl⟩
theorem call_cycle_New  (R : Rs.T [.lf .ptr] → WP) (w : World) (h : W_cycle_New  R w) :
    CallX Tryz.prog N_cycle_New ([].map V1.enc) w fun v w' => ∃ x, v = (retTV (Rs.mk [.lf .ptr] x)).enc ∧ R x w' :=
  callX_of_semF Tryz.func77 (by kernel_rfl) (by kernel_rfl) (sem_cycle_New  R) h


/-- canter/delay.Of -/
def W_delay_Of (size : Int) (rate : Int) (R : Rs.T [.lf (.int .u64)] → WP) : WP :=
  ite' ((decide (size < (1:Int))) || (rate == (18446744073709551615:Int))) (
  R (0:Int)) <|
  call Tryz.prog N_wide_MulDiv [.lf (.int .u64 (IntKind.u64.wrap size)), .lf (.int .u64 (1000000000:Int)), .lf (.int .u64 rate)] [.lf (.int .u64)] fun (r1 : Int) =>
  R (if (1000000000:Int) < r1 then (1000000000:Int) else r1)
theorem sem_delay_Of (size : Int) (rate : Int) (R : Rs.T [.lf (.int .u64)] → WP) : Same (semF Tryz.prog Tryz.f45 (.s .o (.s (.s .o (.s (.s .o .o) .o)) (.s .o .o))) [.lf (.int .i64 size), .lf (.int .u64 rate)] [.lf (.int .u64)] R) (fun w => W_delay_Of size rate R w) := ⟨by kernel_rfl⟩
theorem call_delay_Of (size : Int) (rate : Int) (R : Rs.T [.lf (.int .u64)] → WP) (w : World) (h : W_delay_Of size rate R w) :
    CallX Tryz.prog N_delay_Of ([.lf (.int .i64 size), .lf (.int .u64 rate)].map V1.enc) w fun v w' => ∃ x, v = (retTV (Rs.mk [.lf (.int .u64)] x)).enc ∧ R x w' :=
  callX_of_semF Tryz.func45 (by kernel_rfl) (by kernel_rfl) (sem_delay_Of size rate R) h


/-- math/bits.Add64 (the model stands in for it) -/
def W_math_bits_Add64 (x y c : Int) (R : Rs.T [.lf (.int .u64), .lf (.int .u64)] → WP) : WP :=
  req ((0 ≤ x ∧ 0 ≤ y) ∧ 0 ≤ c ∧ c ≤ 1) <|
  R ((x + y + c) % 18446744073709551616, (x + y + c) / 18446744073709551616)
theorem call_math_bits_Add64 (x y c : Int) (R : Rs.T [.lf (.int .u64), .lf (.int .u64)] → WP) (w : World) (h : W_math_bits_Add64 x y c R w) :
    CallX Tryz.prog N_math_bits_Add64 ([.lf (.int .u64 x), .lf (.int .u64 y), .lf (.int .u64 c)].map V1.enc) w fun v w' => ∃ x, v = (retTV (Rs.mk [.lf (.int .u64), .lf (.int .u64)] x)).enc ∧ R x w' := by
  obtain ⟨hp, h⟩ := h
  exact callX_extern Tryz.func88 (by kernel_rfl) (by kernel_rfl) (by kernel_rfl) (x := add64Entry) (by kernel_rfl) (run_add64 x y c hp.1.1 hp.1.2 hp.2.1 hp.2.2 w) ⟨_, rfl, h⟩


/-- math/bits.Mul64 -/
def W_math_bits_Mul64 (x : Int) (y : Int) (R : Rs.T [.lf (.int .u64), .lf (.int .u64)] → WP) : WP :=
  req (0 ≤ (32:Int)) <|
  req (0 ≤ (32:Int)) <|
  req (0 ≤ (32:Int)) <|
  req (0 ≤ (32:Int)) <|
  req (0 ≤ (32:Int)) <|
  R ((IntKind.u64.wrap ((IntKind.u64.wrap ((IntKind.u64.wrap ((x.fdiv (2 ^ min (32:Int).toNat IntKind.u64.bits)) * (y.fdiv (2 ^ min (32:Int).toNat IntKind.u64.bits)))) + ((IntKind.u64.wrap ((IntKind.u64.wrap ((x.fdiv (2 ^ min (32:Int).toNat IntKind.u64.bits)) * (IntKind.u64.wrap (BitVec.ofInt IntKind.u64.bits y &&& BitVec.ofInt IntKind.u64.bits (4294967295:Int)).toNat))) + ((IntKind.u64.wrap ((IntKind.u64.wrap (BitVec.ofInt IntKind.u64.bits x &&& BitVec.ofInt IntKind.u64.bits (4294967295:Int)).toNat) * (IntKind.u64.wrap (BitVec.ofInt IntKind.u64.bits y &&& BitVec.ofInt IntKind.u64.bits (4294967295:Int)).toNat))).fdiv (2 ^ min (32:Int).toNat IntKind.u64.bits)))).fdiv (2 ^ min (32:Int).toNat IntKind.u64.bits)))) + ((IntKind.u64.wrap ((IntKind.u64.wrap (BitVec.ofInt IntKind.u64.bits (IntKind.u64.wrap ((IntKind.u64.wrap ((x.fdiv (2 ^ min (32:Int).toNat IntKind.u64.bits)) * (IntKind.u64.wrap (BitVec.ofInt IntKind.u64.bits y &&& BitVec.ofInt IntKind.u64.bits (4294967295:Int)).toNat))) + ((IntKind.u64.wrap ((IntKind.u64.wrap (BitVec.ofInt IntKind.u64.bits x &&& BitVec.ofInt IntKind.u64.bits (4294967295:Int)).toNat) * (IntKind.u64.wrap (BitVec.ofInt IntKind.u64.bits y &&& BitVec.ofInt IntKind.u64.bits (4294967295:Int)).toNat))).fdiv (2 ^ min (32:Int).toNat IntKind.u64.bits)))) &&& BitVec.ofInt IntKind.u64.bits (4294967295:Int)).toNat) + (IntKind.u64.wrap ((IntKind.u64.wrap (BitVec.ofInt IntKind.u64.bits x &&& BitVec.ofInt IntKind.u64.bits (4294967295:Int)).toNat) * (y.fdiv (2 ^ min (32:Int).toNat IntKind.u64.bits)))))).fdiv (2 ^ min (32:Int).toNat IntKind.u64.bits)))), (IntKind.u64.wrap (x * y)))
theorem sem_math_bits_Mul64 (x : Int) (y : Int) (R : Rs.T [.lf (.int .u64), .lf (.int .u64)] → WP) : Same (semF Tryz.prog Tryz.f155 (.s .o (.s .o (.s .o (.s .o (.s .o (.s .o (.s .o (.s .o (.s .o (.s .o (.s .o (.s .o .o)))))))))))) [.lf (.int .u64 x), .lf (.int .u64 y)] [.lf (.int .u64), .lf (.int .u64)] R) (fun w => W_math_bits_Mul64 x y R w) := ⟨by kernel_rfl⟩
theorem call_math_bits_Mul64 (x : Int) (y : Int) (R : Rs.T [.lf (.int .u64), .lf (.int .u64)] → WP) (w : World) (h : W_math_bits_Mul64 x y R w) :
    CallX Tryz.prog N_math_bits_Mul64 ([.lf (.int .u64 x), .lf (.int .u64 y)].map V1.enc) w fun v w' => ∃ x, v = (retTV (Rs.mk [.lf (.int .u64), .lf (.int .u64)] x)).enc ∧ R x w' :=
  callX_of_semF Tryz.func155 (by kernel_rfl) (by kernel_rfl) (sem_math_bits_Mul64 x y R) h


/-- canter/pipe.New -/
def W_pipe_New  (R : Rs.T [.lf .ptr] → WP) : WP :=
  new [.int .u64 (0:Int), .int .i64 (0:Int), .bool false] fun n1 =>
  R (some ⟨n1, 0⟩)
theorem sem_pipe_New  (R : Rs.T [.lf .ptr] → WP) : Same (semF Tryz.prog Tryz.f76 (.s .o (.s .o .o)) [] [.lf .ptr] R) (fun w => W_pipe_New  R w) := ⟨by kernel_rfl⟩
theorem call_pipe_New  (R : Rs.T [.lf .ptr] → WP) (w : World) (h : W_pipe_New  R w) :
    CallX Tryz.prog N_pipe_New ([].map V1.enc) w fun v w' => ∃ x, v = (retTV (Rs.mk [.lf .ptr] x)).enc ∧ R x w' :=
  callX_of_semF Tryz.func76 (by kernel_rfl) (by kernel_rfl) (sem_pipe_New  R) h


/-- (*canter/pipe.Pipe).Full -/
def W_pipe_Pipe_Full (p : Option Pt) (R : Rs.T [.lf .bool] → WP) : WP :=
  ite' (!p.isNone) (
  deref p fun q1 =>
  ld [.bool] ⟨q1.b, q1.o + 2⟩ fun (x2 : Bool) =>
  R x2) <|
  R false
theorem sem_pipe_Pipe_Full (p : Option Pt) (R : Rs.T [.lf .bool] → WP) : Same (semF Tryz.prog Tryz.f95 (.s .o (.s .o .o)) [.lf (.ptr p)] [.lf .bool] R) (fun w => W_pipe_Pipe_Full p R w) := ⟨by kernel_rfl⟩
theorem call_pipe_Pipe_Full (p : Option Pt) (R : Rs.T [.lf .bool] → WP) (w : World) (h : W_pipe_Pipe_Full p R w) :
    CallX Tryz.prog N_pipe_Pipe_Full ([.lf (.ptr p)].map V1.enc) w fun v w' => ∃ x, v = (retTV (Rs.mk [.lf .bool] x)).enc ∧ R x w' :=
  callX_of_semF Tryz.func95 (by kernel_rfl) (by kernel_rfl) (sem_pipe_Pipe_Full p R) h


/-- (*canter/pipe.Pipe).Update -/
def W_pipe_Pipe_Update (p : Option Pt) (start : Bool) (limited : Bool) (bw : Int) (R : Rs.T [.lf .bool] → WP) : WP :=
  join [] (fun J1 =>
  loop [] () fun J3 (y4 : Unit) =>
  join [] (fun J5 =>
  ite' (!p.isNone) (
  deref p fun q7 =>
  ld [.bool] ⟨q7.b, q7.o + 2⟩ fun (x8 : Bool) =>
  ite' (((!x8) && start) && (!limited)) (
  J5 ()) <|
  J1 ()) <|
  J1 ()) fun (y6 : Unit) =>
  deref p fun q9 =>
  ld [.int .u64] q9 fun (x10 : Int) =>
  call Tryz.prog N_wide_MulDiv [.lf (.int .u64 x10), .lf (.int .u64 (320:Int)), .lf (.int .u64 (256:Int))] [.lf (.int .u64)] fun (r11 : Int) =>
  ite' (decide (bw ≥ r11)) (
  deref p fun q12 =>
  st q12 [.int .u64 bw] <|
  deref p fun q13 =>
  st ⟨q13.b, q13.o + 1⟩ [.int .i64 (0:Int)] <|
  J1 ()) <|
  deref p fun q14 =>
  ld [.int .i64] ⟨q14.b, q14.o + 1⟩ fun (x15 : Int) =>
  deref p fun q16 =>
  st ⟨q16.b, q16.o + 1⟩ [.int .i64 (IntKind.i64.wrap (x15 + (1:Int)))] <|
  deref p fun q17 =>
  ld [.int .i64] ⟨q17.b, q17.o + 1⟩ fun (x18 : Int) =>
  deref p fun q19 =>
  st ⟨q19.b, q19.o + 2⟩ [.bool (x18 == (3:Int))] <|
  J1 ()) fun (y2 : Unit) =>
  call Tryz.prog N_pipe_Pipe_Full [.lf (.ptr p)] [.lf .bool] fun (r20 : Bool) =>
  R r20
theorem sem_pipe_Pipe_Update (p : Option Pt) (start : Bool) (limited : Bool) (bw : Int) (R : Rs.T [.lf .bool] → WP) : Same (semF Tryz.prog Tryz.f133 (.s .o (.s .o (.j [] (.b (.l [] (.j [] (.s .o (.s .o .o)) (.b (.s (.s .o (.s (.s .o .o) .o)) (.s .o (.s .o .o))))))) (.s .o .o)))) [.lf (.ptr p), .lf (.bool start), .lf (.bool limited), .lf (.int .u64 bw)] [.lf .bool] R) (fun w => W_pipe_Pipe_Update p start limited bw R w) := ⟨by kernel_rfl⟩
theorem call_pipe_Pipe_Update (p : Option Pt) (start : Bool) (limited : Bool) (bw : Int) (R : Rs.T [.lf .bool] → WP) (w : World) (h : W_pipe_Pipe_Update p start limited bw R w) :
    CallX Tryz.prog N_pipe_Pipe_Update ([.lf (.ptr p), .lf (.bool start), .lf (.bool limited), .lf (.int .u64 bw)].map V1.enc) w fun v w' => ∃ x, v = (retTV (Rs.mk [.lf .bool] x)).enc ∧ R x w' :=
  callX_of_semF Tryz.func133 (by kernel_rfl) (by kernel_rfl) (sem_pipe_Pipe_Update p start limited bw R) h


/-- canter/policer.New -/
def W_policer_New  (R : Rs.T [.lf .ptr] → WP) : WP :=
  new [.bool false, .bool false, .int .u64 (0:Int), .int .i64 (0:Int), .int .u64 (0:Int), .int .u64 (0:Int), .int .u64 (0:Int), .int .u64 (0:Int)] fun n1 =>
  R (some ⟨n1, 0⟩)
theorem sem_policer_New  (R : Rs.T [.lf .ptr] → WP) : Same (semF Tryz.prog Tryz.f79 (.s .o (.s .o .o)) [] [.lf .ptr] R) (fun w => W_policer_New  R w) := ⟨by kernel_rfl⟩
theorem call_policer_New  (R : Rs.T [.lf .ptr] → WP) (w : World) (h : W_policer_New  R w) :
    CallX Tryz.prog N_policer_New ([].map V1.enc) w fun v w' => ∃ x, v = (retTV (Rs.mk [.lf .ptr] x)).enc ∧ R x w' :=
  callX_of_semF Tryz.func79 (by kernel_rfl) (by kernel_rfl) (sem_policer_New  R) h



end Go.X
