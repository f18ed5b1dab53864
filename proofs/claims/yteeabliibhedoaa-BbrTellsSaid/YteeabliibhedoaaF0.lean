/- What each function of the program computes, as a weakest precondition, printed by program; the kernel sees that the code says so. -/
import Derived.Test.YteeabliibhedoaaK
import Derived.Test.YteeabliibhedoaaProg
set_option linter.unusedVariables false
namespace Go.X
open Go.Proofs
/-- (*canter/bbr.Model).State -/
def W_bbr_Model_State (m : Option Pt) (R : Rs.T [.agg K_i2u6b2] → WP) : WP :=
  new [.int .i64 (0:Int), .int .i64 (0:Int), .int .u64 (0:Int), .int .u64 (0:Int), .int .u64 (0:Int), .int .u64 (0:Int), .int .u64 (0:Int), .int .u64 (0:Int), .bool false, .bool false] fun n1 =>
  ite' m.isNone (
  st ⟨n1, 0⟩ [.int .i64 (0:Int), .int .i64 (0:Int), .int .u64 (0:Int), .int .u64 (0:Int), .int .u64 (0:Int), .int .u64 (0:Int), .int .u64 (0:Int), .int .u64 (0:Int), .bool false, .bool false] <|
  ld K_i2u6b2 ⟨n1, 0⟩ fun (x2 : T_i2u6b2) =>
  R x2) <|
  drw <|
  deref m fun q3 =>
  deref m fun q4 =>
  deref m fun q5 =>
  deref m fun q6 =>
  deref m fun q7 =>
  deref m fun q8 =>
  deref m fun q9 =>
  ld [.int .i64] ⟨q3.b, q3.o + 7⟩ fun (x10 : Int) =>
  ld [.int .u64] ⟨q4.b, q4.o + 8⟩ fun (x11 : Int) =>
  ld [.int .u64] ⟨q5.b, q5.o + 9⟩ fun (x12 : Int) =>
  ld [.ptr] ⟨q6.b, q6.o + 4⟩ fun (x13 : Option Pt) =>
  ld [.ptr] ⟨q7.b, q7.o + 1⟩ fun (x14 : Option Pt) =>
  ld [.ptr] ⟨q8.b, q8.o + 3⟩ fun (x15 : Option Pt) =>
  ld [.ptr] ⟨q9.b, q9.o + 2⟩ fun (x16 : Option Pt) =>
  call Try.prog N_bbr_Model_bw [.lf (.ptr m)] [.lf (.int .u64)] fun (r17 : Int) =>
  chk ⟨q9.b, q9.o + 2⟩ (Ks.mk [.ptr] x16) <|
  chk ⟨q8.b, q8.o + 3⟩ (Ks.mk [.ptr] x15) <|
  chk ⟨q7.b, q7.o + 1⟩ (Ks.mk [.ptr] x14) <|
  chk ⟨q6.b, q6.o + 4⟩ (Ks.mk [.ptr] x13) <|
  chk ⟨q5.b, q5.o + 9⟩ (Ks.mk [.int .u64] x12) <|
  chk ⟨q4.b, q4.o + 8⟩ (Ks.mk [.int .u64] x11) <|
  chk ⟨q3.b, q3.o + 7⟩ (Ks.mk [.int .i64] x10) <|
  call Try.prog N_probe_Probe_Best [.lf (.ptr x13)] [.lf (.int .u64)] fun (r18 : Int) =>
  chk ⟨q9.b, q9.o + 2⟩ (Ks.mk [.ptr] x16) <|
  chk ⟨q8.b, q8.o + 3⟩ (Ks.mk [.ptr] x15) <|
  chk ⟨q7.b, q7.o + 1⟩ (Ks.mk [.ptr] x14) <|
  chk ⟨q5.b, q5.o + 9⟩ (Ks.mk [.int .u64] x12) <|
  chk ⟨q4.b, q4.o + 8⟩ (Ks.mk [.int .u64] x11) <|
  chk ⟨q3.b, q3.o + 7⟩ (Ks.mk [.int .i64] x10) <|
  call Try.prog N_bbr_Model_gain [.lf (.ptr m)] [.lf (.int .u64)] fun (r19 : Int) =>
  chk ⟨q9.b, q9.o + 2⟩ (Ks.mk [.ptr] x16) <|
  chk ⟨q8.b, q8.o + 3⟩ (Ks.mk [.ptr] x15) <|
  chk ⟨q7.b, q7.o + 1⟩ (Ks.mk [.ptr] x14) <|
  chk ⟨q5.b, q5.o + 9⟩ (Ks.mk [.int .u64] x12) <|
  chk ⟨q4.b, q4.o + 8⟩ (Ks.mk [.int .u64] x11) <|
  chk ⟨q3.b, q3.o + 7⟩ (Ks.mk [.int .i64] x10) <|
  call Try.prog N_rounds_Rounds_Count [.lf (.ptr x14)] [.lf (.int .u64)] fun (r20 : Int) =>
  chk ⟨q9.b, q9.o + 2⟩ (Ks.mk [.ptr] x16) <|
  chk ⟨q8.b, q8.o + 3⟩ (Ks.mk [.ptr] x15) <|
  chk ⟨q5.b, q5.o + 9⟩ (Ks.mk [.int .u64] x12) <|
  chk ⟨q4.b, q4.o + 8⟩ (Ks.mk [.int .u64] x11) <|
  chk ⟨q3.b, q3.o + 7⟩ (Ks.mk [.int .i64] x10) <|
  call Try.prog N_cycle_Cycle_Phase [.lf (.ptr x15)] [.lf (.int .i64)] fun (r21 : Int) =>
  chk ⟨q9.b, q9.o + 2⟩ (Ks.mk [.ptr] x16) <|
  chk ⟨q5.b, q5.o + 9⟩ (Ks.mk [.int .u64] x12) <|
  chk ⟨q4.b, q4.o + 8⟩ (Ks.mk [.int .u64] x11) <|
  chk ⟨q3.b, q3.o + 7⟩ (Ks.mk [.int .i64] x10) <|
  call Try.prog N_pipe_Pipe_Full [.lf (.ptr x16)] [.lf .bool] fun (r22 : Bool) =>
  chk ⟨q5.b, q5.o + 9⟩ (Ks.mk [.int .u64] x12) <|
  chk ⟨q4.b, q4.o + 8⟩ (Ks.mk [.int .u64] x11) <|
  chk ⟨q3.b, q3.o + 7⟩ (Ks.mk [.int .i64] x10) <|
  call Try.prog N_bbr_Model_policed [.lf (.ptr m)] [.lf .bool] fun (r23 : Bool) =>
  chk ⟨q5.b, q5.o + 9⟩ (Ks.mk [.int .u64] x12) <|
  chk ⟨q4.b, q4.o + 8⟩ (Ks.mk [.int .u64] x11) <|
  chk ⟨q3.b, q3.o + 7⟩ (Ks.mk [.int .i64] x10) <|
  st ⟨n1, 0⟩ [.int .i64 x10, .int .i64 r21, .int .u64 x11, .int .u64 x12, .int .u64 r17, .int .u64 r18, .int .u64 r19, .int .u64 r20, .bool r22, .bool r23] <|
  ld K_i2u6b2 ⟨n1, 0⟩ fun (x24 : T_i2u6b2) =>
  R x24
theorem sem_bbr_Model_State (m : Option Pt) (R : Rs.T [.agg K_i2u6b2] → WP) : Same (semF Try.prog Try.f14 (.s .o (.s (.s .o (.s (.s .o .o) .o)) (.s (.d (.f 0 [0] (.f 4 [0] (.f 8 [0] (.f 12 [0] (.f 14 [0] (.f 19 [0] (.f 21 [0] (.f 26 [0] (.f 31 [0] (.f 36 [0] (.f 1 [6] (.f 5 [10] (.f 9 [14] (.f 15 [20] (.f 22 [27] (.f 27 [32] (.f 32 [37] (.f 2 [7] (.f 6 [11] (.f 10 [15] (.f 16 [21] (.f 23 [28] (.f 28 [33] (.f 33 [38] (.f 3 [8] (.f 7 [12] (.f 11 [16] (.f 17 [22] (.f 24 [29] (.f 29 [34] (.f 34 [39] (.w 13 [18] (.w 18 [23] (.w 20 [25] (.w 25 [30] (.w 30 [35] (.w 35 [40] (.w 37 [42] (.f 38 [9, 13, 17, 19, 24, 26, 31, 36, 41, 43] (.w 39 [2, 44] .fin))))))))))))))))))))))))))))))))))))))))) .o))) [.lf (.ptr m)] [.agg K_i2u6b2] R) (fun w => W_bbr_Model_State m R w) := ⟨by kernel_rfl⟩
theorem call_bbr_Model_State (m : Option Pt) (R : Rs.T [.agg K_i2u6b2] → WP) (w : World) (h : W_bbr_Model_State m R w) :
    CallX Try.prog N_bbr_Model_State ([.lf (.ptr m)].map V1.enc) w fun v w' => ∃ x, v = (retTV (Rs.mk [.agg K_i2u6b2] x)).enc ∧ R x w' :=
  callX_of_semF Try.func14 (by kernel_rfl) (by kernel_rfl) (sem_bbr_Model_State m R) h


/-- (*canter/bbr.Model).Update -/
def W_bbr_Model_Update (d : Option Pt) (o : T_u8b) (a : Int) (R : Rs.T [.agg K_i2u6b2] → WP) : WP :=
  new (Ks.mk K_u8b o) fun n1 =>
  new [.int .i64 (0:Int), .int .i64 (0:Int), .int .u64 (0:Int), .int .u64 (0:Int), .int .u64 (0:Int), .int .u64 (0:Int), .int .u64 (0:Int), .int .u64 (0:Int), .bool false, .bool false] fun n2 =>
  ite' d.isNone (
  st ⟨n2, 0⟩ [.int .i64 (0:Int), .int .i64 (0:Int), .int .u64 (0:Int), .int .u64 (0:Int), .int .u64 (0:Int), .int .u64 (0:Int), .int .u64 (0:Int), .int .u64 (0:Int), .bool false, .bool false] <|
  ld K_i2u6b2 ⟨n2, 0⟩ fun (x3 : T_i2u6b2) =>
  R x3) <|
  drw <|
  ld K_u8b ⟨n1, 0⟩ fun (x4 : T_u8b) =>
  deref d fun q5 =>
  ld [.ptr] ⟨q5.b, q5.o + 1⟩ fun (x6 : Option Pt) =>
  call Try.prog N_rounds_Rounds_Update [.lf (.ptr x6), .agg (Ks.mk K_u8b x4)] [.lf .bool] fun (r7 : Bool) =>
  drw <|
  ld K_u8b ⟨n1, 0⟩ fun (x8 : T_u8b) =>
  deref d fun q9 =>
  ld [.ptr] ⟨q9.b, q9.o + 5⟩ fun (x10 : Option Pt) =>
  call Try.prog N_policer_Policer_Update [.lf (.ptr x10), .lf (.bool r7), .agg (Ks.mk K_u8b x8)] [] fun (r11 : Unit) =>
  ld K_u8b ⟨n1, 0⟩ fun (x12 : T_u8b) =>
  call Try.prog N_bbr_Model_measure [.lf (.ptr d), .agg (Ks.mk K_u8b x12)] [] fun (r13 : Unit) =>
  join [] (fun J14 =>
  join [.bool] (fun J16 =>
  deref d fun q18 =>
  ld [.int .i64] ⟨q18.b, q18.o + 7⟩ fun (x19 : Int) =>
  ite' (x19 == (2:Int)) (
  call Try.prog N_bbr_Model_policed [.lf (.ptr d)] [.lf .bool] fun (r20 : Bool) =>
  J16 (!r20)) <|
  J16 false) fun (y17 : Bool) =>
  ite' y17 (
  drw <|
  deref d fun q21 =>
  ld [.int .u64] ⟨n1, 0⟩ fun (x22 : Int) =>
  deref d fun q23 =>
  ld [.int .u64] ⟨n1, 6⟩ fun (x24 : Int) =>
  ld [.int .u64] ⟨n1, 7⟩ fun (x25 : Int) =>
  ld [.ptr] ⟨q21.b, q21.o + 3⟩ fun (x26 : Option Pt) =>
  ld [.ptr] ⟨q23.b, q23.o + 4⟩ fun (x27 : Option Pt) =>
  call Try.prog N_probe_Probe_Best [.lf (.ptr x27)] [.lf (.int .u64)] fun (r28 : Int) =>
  chk ⟨q21.b, q21.o + 3⟩ (Ks.mk [.ptr] x26) <|
  chk ⟨n1, 7⟩ (Ks.mk [.int .u64] x25) <|
  chk ⟨n1, 6⟩ (Ks.mk [.int .u64] x24) <|
  chk ⟨n1, 0⟩ (Ks.mk [.int .u64] x22) <|
  call Try.prog N_bbr_Model_bdp [.lf (.ptr d), .lf (.int .u64 (320:Int))] [.lf (.int .u64)] fun (r29 : Int) =>
  chk ⟨q21.b, q21.o + 3⟩ (Ks.mk [.ptr] x26) <|
  chk ⟨n1, 7⟩ (Ks.mk [.int .u64] x25) <|
  chk ⟨n1, 6⟩ (Ks.mk [.int .u64] x24) <|
  chk ⟨n1, 0⟩ (Ks.mk [.int .u64] x22) <|
  call Try.prog N_bbr_Model_bdp [.lf (.ptr d), .lf (.int .u64 (256:Int))] [.lf (.int .u64)] fun (r30 : Int) =>
  chk ⟨q21.b, q21.o + 3⟩ (Ks.mk [.ptr] x26) <|
  chk ⟨n1, 7⟩ (Ks.mk [.int .u64] x25) <|
  chk ⟨n1, 6⟩ (Ks.mk [.int .u64] x24) <|
  chk ⟨n1, 0⟩ (Ks.mk [.int .u64] x22) <|
  call Try.prog N_cycle_Cycle_Update [.lf (.ptr x26), .lf (.int .u64 x22), .lf (.int .u64 r28), .lf (.int .u64 x24), .lf (.int .u64 x25), .lf (.int .u64 r29), .lf (.int .u64 r30)] [.lf .bool] fun (r31 : Bool) =>
  J14 ()) <|
  J14 ()) fun (y15 : Unit) =>
  drw <|
  deref d fun q32 =>
  ld [.bool] ⟨n1, 8⟩ fun (x33 : Bool) =>
  deref d fun q34 =>
  ld [.ptr] ⟨q32.b, q32.o + 2⟩ fun (x35 : Option Pt) =>
  ld [.ptr] q34 fun (x36 : Option Pt) =>
  call Try.prog N_winmax_Max_Best [.lf (.ptr x36)] [.lf (.int .u64)] fun (r37 : Int) =>
  chk ⟨q32.b, q32.o + 2⟩ (Ks.mk [.ptr] x35) <|
  chk ⟨n1, 8⟩ (Ks.mk [.bool] x33) <|
  call Try.prog N_pipe_Pipe_Update [.lf (.ptr x35), .lf (.bool r7), .lf (.bool x33), .lf (.int .u64 r37)] [.lf .bool] fun (r38 : Bool) =>
  ld K_u8b ⟨n1, 0⟩ fun (x39 : T_u8b) =>
  call Try.prog N_bbr_Model_modes [.lf (.ptr d), .agg (Ks.mk K_u8b x39)] [] fun (r40 : Unit) =>
  ld K_u8b ⟨n1, 0⟩ fun (x41 : T_u8b) =>
  call Try.prog N_bbr_Model_look [.lf (.ptr d), .agg (Ks.mk K_u8b x41), .lf (.bool r7)] [] fun (r42 : Unit) =>
  call Try.prog N_bbr_Model_pace [.lf (.ptr d)] [] fun (r43 : Unit) =>
  ld K_u8b ⟨n1, 0⟩ fun (x44 : T_u8b) =>
  call Try.prog N_bbr_Model_recover [.lf (.ptr d), .agg (Ks.mk K_u8b x44), .lf (.bool r7)] [] fun (r45 : Unit) =>
  ld K_u8b ⟨n1, 0⟩ fun (x46 : T_u8b) =>
  call Try.prog N_bbr_Model_window [.lf (.ptr d), .agg (Ks.mk K_u8b x46), .lf (.int .u64 a)] [] fun (r47 : Unit) =>
  call Try.prog N_bbr_Model_State [.lf (.ptr d)] [.agg K_i2u6b2] fun (r48 : T_i2u6b2) =>
  st ⟨n2, 0⟩ (Ks.mk K_i2u6b2 r48) <|
  ld K_i2u6b2 ⟨n2, 0⟩ fun (x49 : T_i2u6b2) =>
  R x49
theorem sem_bbr_Model_Update (d : Option Pt) (o : T_u8b) (a : Int) (R : Rs.T [.agg K_i2u6b2] → WP) : Same (semF Try.prog Try.f17 (.s .o (.s (.s .o (.s (.s .o .o) .o)) (.s (.d (.f 0 [0] (.f 4 [4] (.f 1 [11] (.f 2 [12] (.f 3 [13] (.w 5 [14, 15] (.w 6 [16] .fin)))))))) (.s (.d (.f 0 [0] (.f 4 [7] (.f 5 [4] (.f 1 [17] (.f 2 [18] (.f 3 [19] (.w 6 [20, 21, 22] .fin)))))))) (.s .o (.j [] (.j [(36, .lf .bool)] .o (.s (.d (.f 0 [0] (.f 4 [4] (.f 6 [0] (.f 11 [4] (.f 13 [4] (.f 15 [0] (.f 17 [0] (.f 1 [37] (.f 5 [41] (.f 7 [43] (.f 12 [48] (.f 14 [50] (.f 2 [38] (.f 8 [44] (.f 3 [39] (.f 9 [45] (.w 10 [46] (.w 16 [52] (.w 18 [54] (.w 19 [40, 42, 47, 49, 51, 53, 55] .fin))))))))))))))))))))) .o)) (.s (.d (.f 0 [0] (.f 4 [7] (.f 5 [4] (.f 7 [0] (.f 1 [57] (.f 6 [62] (.f 8 [64] (.f 2 [58] (.f 9 [65] (.f 3 [59] (.f 10 [66] (.w 11 [67] (.w 12 [60, 61, 63, 68] .fin)))))))))))))) (.s .o (.s .o (.s .o (.s .o (.s .o (.s .o .o))))))))))))) [.lf (.ptr d), .agg (Ks.mk K_u8b o), .lf (.int .u64 a)] [.agg K_i2u6b2] R) (fun w => W_bbr_Model_Update d o a R w) := ⟨by kernel_rfl⟩
theorem call_bbr_Model_Update (d : Option Pt) (o : T_u8b) (a : Int) (R : Rs.T [.agg K_i2u6b2] → WP) (w : World) (h : W_bbr_Model_Update d o a R w) :
    CallX Try.prog N_bbr_Model_Update ([.lf (.ptr d), .agg (Ks.mk K_u8b o), .lf (.int .u64 a)].map V1.enc) w fun v w' => ∃ x, v = (retTV (Rs.mk [.agg K_i2u6b2] x)).enc ∧ R x w' :=
  callX_of_semF Try.func17 (by kernel_rfl) (by kernel_rfl) (sem_bbr_Model_Update d o a R) h


/-- (*canter/bbr.Model).back -/
def W_bbr_Model_back (m : Option Pt) (R : Rs.T [] → WP) : WP :=
  drw <|
  deref m fun q1 =>
  deref m fun q2 =>
  ld [.int .u64] ⟨q1.b, q1.o + 9⟩ fun (x3 : Int) =>
  ld [.int .u64] ⟨q2.b, q2.o + 10⟩ fun (x4 : Int) =>
  deref m fun q5 =>
  st ⟨q5.b, q5.o + 9⟩ [.int .u64 (if x4 > x3 then x4 else x3)] <|
  deref m fun q6 =>
  st ⟨q6.b, q6.o + 10⟩ [.int .u64 (0:Int)] <|
  R ()
theorem sem_bbr_Model_back (m : Option Pt) (R : Rs.T [] → WP) : Same (semF Try.prog Try.f79 (.d (.f 0 [0] (.f 1 [0] (.f 2 [0] (.f 6 [0] (.f 3 [4] (.f 7 [8] (.f 4 [5] (.f 8 [9] (.f 5 [6] (.f 9 [10] (.f 10 [7, 11] (.f 11 [2] (.f 12 [13] (.w 13 [12, 14] (.f 14 [3] (.f 15 [15] (.w 16 [16] .fin)))))))))))))))))) [.lf (.ptr m)] [] R) (fun w => W_bbr_Model_back m R w) := ⟨by kernel_rfl⟩
theorem call_bbr_Model_back (m : Option Pt) (R : Rs.T [] → WP) (w : World) (h : W_bbr_Model_back m R w) :
    CallX Try.prog N_bbr_Model_back ([.lf (.ptr m)].map V1.enc) w fun v w' => ∃ x, v = (retTV (Rs.mk [] x)).enc ∧ R x w' :=
  callX_of_semF Try.func79 (by kernel_rfl) (by kernel_rfl) (sem_bbr_Model_back m R) h


/-- (*canter/bbr.Model).bdp -/
def W_bbr_Model_bdp (m : Option Pt) (gain : Int) (R : Rs.T [.lf (.int .u64)] → WP) : WP :=
  drw <|
  deref m fun q1 =>
  ld [.ptr] ⟨q1.b, q1.o + 4⟩ fun (x2 : Option Pt) =>
  call Try.prog N_bbr_Model_bw [.lf (.ptr m)] [.lf (.int .u64)] fun (r3 : Int) =>
  chk ⟨q1.b, q1.o + 4⟩ (Ks.mk [.ptr] x2) <|
  call Try.prog N_probe_Probe_Best [.lf (.ptr x2)] [.lf (.int .u64)] fun (r4 : Int) =>
  call Try.prog N_target_Bdp [.lf (.int .u64 r3), .lf (.int .u64 r4), .lf (.int .u64 gain)] [.lf (.int .u64)] fun (r5 : Int) =>
  R r5
theorem sem_bbr_Model_bdp (m : Option Pt) (gain : Int) (R : Rs.T [.lf (.int .u64)] → WP) : Same (semF Try.prog Try.f43 (.s .o (.s (.d (.f 0 [0] (.f 2 [0] (.f 7 [1] (.f 3 [7] (.f 4 [8] (.f 5 [9] (.w 1 [5] (.w 6 [10] (.w 8 [6, 11, 12] (.w 9 [13] .fin))))))))))) .o)) [.lf (.ptr m), .lf (.int .u64 gain)] [.lf (.int .u64)] R) (fun w => W_bbr_Model_bdp m gain R w) := ⟨by kernel_rfl⟩
theorem call_bbr_Model_bdp (m : Option Pt) (gain : Int) (R : Rs.T [.lf (.int .u64)] → WP) (w : World) (h : W_bbr_Model_bdp m gain R w) :
    CallX Try.prog N_bbr_Model_bdp ([.lf (.ptr m), .lf (.int .u64 gain)].map V1.enc) w fun v w' => ∃ x, v = (retTV (Rs.mk [.lf (.int .u64)] x)).enc ∧ R x w' :=
  callX_of_semF Try.func43 (by kernel_rfl) (by kernel_rfl) (sem_bbr_Model_bdp m gain R) h


/-- (*canter/bbr.Model).bw -/
def W_bbr_Model_bw (m : Option Pt) (R : Rs.T [.lf (.int .u64)] → WP) : WP :=
  deref m fun q1 =>
  ld [.ptr] ⟨q1.b, q1.o + 5⟩ fun (x2 : Option Pt) =>
  call Try.prog N_policer_Policer_Use [.lf (.ptr x2)] [.lf (.int .u64), .lf .bool] fun (r3 : Int × Bool) =>
  ite' r3.2 (
  R r3.1) <|
  deref m fun q4 =>
  ld [.ptr] q4 fun (x5 : Option Pt) =>
  call Try.prog N_winmax_Max_Best [.lf (.ptr x5)] [.lf (.int .u64)] fun (r6 : Int) =>
  R r6
theorem sem_bbr_Model_bw (m : Option Pt) (R : Rs.T [.lf (.int .u64)] → WP) : Same (semF Try.prog Try.f31 (.s .o (.s (.s .o (.s .o (.s (.s .o .o) .o))) (.s .o .o))) [.lf (.ptr m)] [.lf (.int .u64)] R) (fun w => W_bbr_Model_bw m R w) := ⟨by kernel_rfl⟩
theorem call_bbr_Model_bw (m : Option Pt) (R : Rs.T [.lf (.int .u64)] → WP) (w : World) (h : W_bbr_Model_bw m R w) :
    CallX Try.prog N_bbr_Model_bw ([.lf (.ptr m)].map V1.enc) w fun v w' => ∃ x, v = (retTV (Rs.mk [.lf (.int .u64)] x)).enc ∧ R x w' :=
  callX_of_semF Try.func31 (by kernel_rfl) (by kernel_rfl) (sem_bbr_Model_bw m R) h


/-- (*canter/bbr.Model).cruise -/
def W_bbr_Model_cruise (m : Option Pt) (now : Int) (R : Rs.T [] → WP) : WP :=
  deref m fun q1 =>
  st ⟨q1.b, q1.o + 7⟩ [.int .i64 (2:Int)] <|
  deref m fun q2 =>
  ld [.ptr] ⟨q2.b, q2.o + 3⟩ fun (x3 : Option Pt) =>
  call Try.prog N_cycle_Cycle_Start [.lf (.ptr x3), .lf (.int .u64 now), .lf (.int .i64 (2:Int))] [] fun (r4 : Unit) =>
  R ()
theorem sem_bbr_Model_cruise (m : Option Pt) (now : Int) (R : Rs.T [] → WP) : Same (semF Try.prog Try.f76 (.s .o .o) [.lf (.ptr m), .lf (.int .u64 now)] [] R) (fun w => W_bbr_Model_cruise m now R w) := ⟨by kernel_rfl⟩
theorem call_bbr_Model_cruise (m : Option Pt) (now : Int) (R : Rs.T [] → WP) (w : World) (h : W_bbr_Model_cruise m now R w) :
    CallX Try.prog N_bbr_Model_cruise ([.lf (.ptr m), .lf (.int .u64 now)].map V1.enc) w fun v w' => ∃ x, v = (retTV (Rs.mk [] x)).enc ∧ R x w' :=
  callX_of_semF Try.func76 (by kernel_rfl) (by kernel_rfl) (sem_bbr_Model_cruise m now R) h


/-- (*canter/bbr.Model).floor -/
def W_bbr_Model_floor (m : Option Pt) (R : Rs.T [.lf (.int .u64)] → WP) : WP :=
  deref m fun q1 =>
  ld [.int .u64] ⟨q1.b, q1.o + 6⟩ fun (x2 : Int) =>
  R (IntKind.u64.wrap ((4:Int) * x2))
theorem sem_bbr_Model_floor (m : Option Pt) (R : Rs.T [.lf (.int .u64)] → WP) : Same (semF Try.prog Try.f78 (.s .o (.s .o .o)) [.lf (.ptr m)] [.lf (.int .u64)] R) (fun w => W_bbr_Model_floor m R w) := ⟨by kernel_rfl⟩
theorem call_bbr_Model_floor (m : Option Pt) (R : Rs.T [.lf (.int .u64)] → WP) (w : World) (h : W_bbr_Model_floor m R w) :
    CallX Try.prog N_bbr_Model_floor ([.lf (.ptr m)].map V1.enc) w fun v w' => ∃ x, v = (retTV (Rs.mk [.lf (.int .u64)] x)).enc ∧ R x w' :=
  callX_of_semF Try.func78 (by kernel_rfl) (by kernel_rfl) (sem_bbr_Model_floor m R) h


/-- (*canter/bbr.Model).gain -/
def W_bbr_Model_gain (m : Option Pt) (R : Rs.T [.lf (.int .u64)] → WP) : WP :=
  deref m fun q1 =>
  ld [.int .i64] ⟨q1.b, q1.o + 7⟩ fun (x2 : Int) =>
  ite' (x2 == (0:Int)) (
  R (739:Int)) <|
  deref m fun q3 =>
  ld [.int .i64] ⟨q3.b, q3.o + 7⟩ fun (x4 : Int) =>
  ite' (x4 == (1:Int)) (
  R (88:Int)) <|
  join [.bool] (fun J5 =>
  deref m fun q7 =>
  ld [.int .i64] ⟨q7.b, q7.o + 7⟩ fun (x8 : Int) =>
  ite' (x8 == (2:Int)) (
  call Try.prog N_bbr_Model_policed [.lf (.ptr m)] [.lf .bool] fun (r9 : Bool) =>
  J5 (!r9)) <|
  J5 false) fun (y6 : Bool) =>
  ite' y6 (
  deref m fun q10 =>
  ld [.ptr] ⟨q10.b, q10.o + 3⟩ fun (x11 : Option Pt) =>
  call Try.prog N_cycle_Cycle_Gain [.lf (.ptr x11)] [.lf (.int .u64)] fun (r12 : Int) =>
  R r12) <|
  R (256:Int)
theorem sem_bbr_Model_gain (m : Option Pt) (R : Rs.T [.lf (.int .u64)] → WP) : Same (semF Try.prog Try.f33 (.s .o (.s (.b (.s .o (.s (.s .o .o) (.s .o (.s (.s .o .o) (.j [(15, .lf .bool)] .o (.s (.s .o .o) .o))))))) (.s .o .o))) [.lf (.ptr m)] [.lf (.int .u64)] R) (fun w => W_bbr_Model_gain m R w) := ⟨by kernel_rfl⟩
theorem call_bbr_Model_gain (m : Option Pt) (R : Rs.T [.lf (.int .u64)] → WP) (w : World) (h : W_bbr_Model_gain m R w) :
    CallX Try.prog N_bbr_Model_gain ([.lf (.ptr m)].map V1.enc) w fun v w' => ∃ x, v = (retTV (Rs.mk [.lf (.int .u64)] x)).enc ∧ R x w' :=
  callX_of_semF Try.func33 (by kernel_rfl) (by kernel_rfl) (sem_bbr_Model_gain m R) h


/-- (*canter/bbr.Model).look -/
def W_bbr_Model_look (m : Option Pt) (s : T_u8b) (start : Bool) (R : Rs.T [] → WP) : WP :=
  new (Ks.mk K_u8b s) fun n1 =>
  drw <|
  deref m fun q2 =>
  ld [.int .u64] ⟨n1, 0⟩ fun (x3 : Int) =>
  ld [.int .u64] ⟨n1, 4⟩ fun (x4 : Int) =>
  ld [.int .u64] ⟨n1, 7⟩ fun (x5 : Int) =>
  ld [.ptr] ⟨q2.b, q2.o + 4⟩ fun (x6 : Option Pt) =>
  call Try.prog N_bbr_Model_floor [.lf (.ptr m)] [.lf (.int .u64)] fun (r7 : Int) =>
  chk ⟨q2.b, q2.o + 4⟩ (Ks.mk [.ptr] x6) <|
  chk ⟨n1, 7⟩ (Ks.mk [.int .u64] x5) <|
  chk ⟨n1, 4⟩ (Ks.mk [.int .u64] x4) <|
  chk ⟨n1, 0⟩ (Ks.mk [.int .u64] x3) <|
  call Try.prog N_probe_Probe_Update [.lf (.ptr x6), .lf (.int .u64 x3), .lf (.int .u64 x4), .lf (.bool start), .lf (.int .u64 x5), .lf (.int .u64 r7)] [.lf .bool, .lf .bool] fun (r8 : Bool × Bool) =>
  ite' r8.1 (
  drw <|
  deref m fun q9 =>
  deref m fun q10 =>
  ld [.int .u64] ⟨q9.b, q9.o + 10⟩ fun (x11 : Int) =>
  ld [.int .u64] ⟨q10.b, q10.o + 9⟩ fun (x12 : Int) =>
  deref m fun q13 =>
  st ⟨q13.b, q13.o + 10⟩ [.int .u64 (if x12 > x11 then x12 else x11)] <|
  deref m fun q14 =>
  st ⟨q14.b, q14.o + 7⟩ [.int .i64 (3:Int)] <|
  R ()) <|
  ite' r8.2 (
  call Try.prog N_bbr_Model_back [.lf (.ptr m)] [] fun (r15 : Unit) =>
  deref m fun q16 =>
  st ⟨q16.b, q16.o + 7⟩ [.int .i64 (0:Int)] <|
  deref m fun q17 =>
  ld [.ptr] ⟨q17.b, q17.o + 2⟩ fun (x18 : Option Pt) =>
  call Try.prog N_pipe_Pipe_Full [.lf (.ptr x18)] [.lf .bool] fun (r19 : Bool) =>
  ite' r19 (
  ld [.int .u64] ⟨n1, 0⟩ fun (x20 : Int) =>
  call Try.prog N_bbr_Model_cruise [.lf (.ptr m), .lf (.int .u64 x20)] [] fun (r21 : Unit) =>
  R ()) <|
  R ()) <|
  R ()
theorem sem_bbr_Model_look (m : Option Pt) (s : T_u8b) (start : Bool) (R : Rs.T [] → WP) : Same (semF Try.prog Try.f47 (.s .o (.s (.d (.f 0 [0] (.f 4 [4] (.f 6 [4] (.f 8 [2] (.f 9 [4] (.f 11 [0] (.f 1 [9] (.f 5 [13] (.f 7 [15] (.f 10 [18] (.f 2 [10] (.f 3 [11] (.w 12 [20] (.w 13 [12, 14, 16, 17, 19, 21] (.f 14 [22] (.f 15 [8] (.f 16 [8] (.w 17 [23] (.w 18 [24] .fin)))))))))))))))))))) (.b (.s .o (.s (.d (.f 0 [0] (.f 1 [0] (.f 2 [0] (.f 6 [0] (.f 3 [29] (.f 7 [33] (.f 4 [30] (.f 8 [34] (.f 5 [31] (.f 9 [35] (.f 10 [32, 36] (.f 11 [27] (.f 12 [38] (.w 13 [37, 39] (.f 14 [28] (.f 15 [40] (.w 16 [41] .fin)))))))))))))))))) (.s .o (.s (.s .o (.s .o (.s .o (.s .o .o)))) .o))))))) [.lf (.ptr m), .agg (Ks.mk K_u8b s), .lf (.bool start)] [] R) (fun w => W_bbr_Model_look m s start R w) := ⟨by kernel_rfl⟩
theorem call_bbr_Model_look (m : Option Pt) (s : T_u8b) (start : Bool) (R : Rs.T [] → WP) (w : World) (h : W_bbr_Model_look m s start R w) :
    CallX Try.prog N_bbr_Model_look ([.lf (.ptr m), .agg (Ks.mk K_u8b s), .lf (.bool start)].map V1.enc) w fun v w' => ∃ x, v = (retTV (Rs.mk [] x)).enc ∧ R x w' :=
  callX_of_semF Try.func47 (by kernel_rfl) (by kernel_rfl) (sem_bbr_Model_look m s start R) h


/-- (*canter/bbr.Model).measure -/
def W_bbr_Model_measure (m : Option Pt) (s : T_u8b) (R : Rs.T [] → WP) : WP :=
  new (Ks.mk K_u8b s) fun n1 =>
  join [] (fun J2 =>
  ld [.int .u64] ⟨n1, 5⟩ fun (x4 : Int) =>
  ite' (x4 == (0:Int)) (
  R ()) <|
  ld [.int .u64] ⟨n1, 3⟩ fun (x5 : Int) =>
  ite' (x5 == (0:Int)) (
  R ()) <|
  J2 ()) fun (y3 : Unit) =>
  drw <|
  ld [.int .u64] ⟨n1, 1⟩ fun (x6 : Int) =>
  ld [.int .u64] ⟨n1, 2⟩ fun (x7 : Int) =>
  ld [.int .u64] ⟨n1, 3⟩ fun (x8 : Int) =>
  call Try.prog N_sat_Sub [.lf (.int .u64 x6), .lf (.int .u64 x7)] [.lf (.int .u64)] fun (r9 : Int) =>
  chk ⟨n1, 3⟩ (Ks.mk [.int .u64] x8) <|
  call Try.prog N_wide_MulDiv [.lf (.int .u64 r9), .lf (.int .u64 (1000000000:Int)), .lf (.int .u64 x8)] [.lf (.int .u64)] fun (r10 : Int) =>
  join [.bool] (fun J11 =>
  ld [.bool] ⟨n1, 8⟩ fun (x13 : Bool) =>
  ite' (!x13) (
  J11 true) <|
  deref m fun q14 =>
  ld [.ptr] q14 fun (x15 : Option Pt) =>
  call Try.prog N_winmax_Max_Best [.lf (.ptr x15)] [.lf (.int .u64)] fun (r16 : Int) =>
  J11 (decide (r10 ≥ r16))) fun (y12 : Bool) =>
  ite' y12 (
  drw <|
  deref m fun q17 =>
  deref m fun q18 =>
  ld [.ptr] q17 fun (x19 : Option Pt) =>
  ld [.ptr] ⟨q18.b, q18.o + 1⟩ fun (x20 : Option Pt) =>
  call Try.prog N_rounds_Rounds_Count [.lf (.ptr x20)] [.lf (.int .u64)] fun (r21 : Int) =>
  chk q17 (Ks.mk [.ptr] x19) <|
  call Try.prog N_winmax_Max_Update [.lf (.ptr x19), .lf (.int .u64 r21), .lf (.int .u64 r10)] [.lf (.int .u64)] fun (r22 : Int) =>
  R ()) <|
  R ()
theorem sem_bbr_Model_measure (m : Option Pt) (s : T_u8b) (R : Rs.T [] → WP) : Same (semF Try.prog Try.f41 (.s .o (.j [] (.s .o (.s .o .o)) (.s (.d (.f 0 [3] (.f 2 [3] (.f 5 [3] (.f 1 [13] (.f 3 [15] (.f 6 [18] (.w 4 [14, 16] (.w 7 [17, 19] (.w 8 [20] .fin)))))))))) (.j [(32, .lf .bool)] .o (.s (.d (.f 0 [0] (.f 4 [0] (.f 9 [4] (.f 1 [33] (.f 5 [37] (.f 2 [34] (.f 6 [38] (.f 3 [35] (.f 7 [39] (.w 8 [40] (.w 10 [36, 41, 42] .fin)))))))))))) .o))))) [.lf (.ptr m), .agg (Ks.mk K_u8b s)] [] R) (fun w => W_bbr_Model_measure m s R w) := ⟨by kernel_rfl⟩
theorem call_bbr_Model_measure (m : Option Pt) (s : T_u8b) (R : Rs.T [] → WP) (w : World) (h : W_bbr_Model_measure m s R w) :
    CallX Try.prog N_bbr_Model_measure ([.lf (.ptr m), .agg (Ks.mk K_u8b s)].map V1.enc) w fun v w' => ∃ x, v = (retTV (Rs.mk [] x)).enc ∧ R x w' :=
  callX_of_semF Try.func41 (by kernel_rfl) (by kernel_rfl) (sem_bbr_Model_measure m s R) h


/-- (*canter/bbr.Model).modes -/
def W_bbr_Model_modes (m : Option Pt) (s : T_u8b) (R : Rs.T [] → WP) : WP :=
  new (Ks.mk K_u8b s) fun n1 =>
  loop [] () fun J2 (y3 : Unit) =>
  join [.bool] (fun J4 =>
  deref m fun q6 =>
  ld [.int .i64] ⟨q6.b, q6.o + 7⟩ fun (x7 : Int) =>
  ite' (x7 == (0:Int)) (
  deref m fun q8 =>
  ld [.ptr] ⟨q8.b, q8.o + 2⟩ fun (x9 : Option Pt) =>
  call Try.prog N_pipe_Pipe_Full [.lf (.ptr x9)] [.lf .bool] fun (r10 : Bool) =>
  J4 r10) <|
  J4 false) fun (y5 : Bool) =>
  ite' y5 (
  deref m fun q11 =>
  st ⟨q11.b, q11.o + 7⟩ [.int .i64 (1:Int)] <|
  J2 ()) <|
  join [.bool] (fun J12 =>
  drw <|
  deref m fun q14 =>
  ld [.int .i64] ⟨q14.b, q14.o + 7⟩ fun (x15 : Int) =>
  ite' (x15 == (1:Int)) (
  deref m fun q16 =>
  ld [.ptr] ⟨q16.b, q16.o + 4⟩ fun (x17 : Option Pt) =>
  call Try.prog N_probe_Probe_Best [.lf (.ptr x17)] [.lf (.int .u64)] fun (r18 : Int) =>
  ite' (decide (r18 > (0:Int))) (
  ld [.int .u64] ⟨n1, 7⟩ fun (x19 : Int) =>
  call Try.prog N_bbr_Model_bdp [.lf (.ptr m), .lf (.int .u64 (256:Int))] [.lf (.int .u64)] fun (r20 : Int) =>
  chk ⟨n1, 7⟩ (Ks.mk [.int .u64] x19) <|
  J12 (decide (x19 ≤ r20))) <|
  J12 false) <|
  J12 false) fun (y13 : Bool) =>
  ite' y13 (
  ld [.int .u64] ⟨n1, 0⟩ fun (x21 : Int) =>
  call Try.prog N_bbr_Model_cruise [.lf (.ptr m), .lf (.int .u64 x21)] [] fun (r22 : Unit) =>
  R ()) <|
  R ()
theorem sem_bbr_Model_modes (m : Option Pt) (s : T_u8b) (R : Rs.T [] → WP) : Same (semF Try.prog Try.f46 (.s .o (.s .o (.b (.l [] (.b (.b (.j [(4, .lf .bool)] .o (.s .o (.j [(20, .lf .bool)] (.d (.f 0 [0] (.f 1 [21] (.f 2 [22] (.f 3 [23] (.f 4 [24] (.f 5 [25] (.f 6 [0, 26] (.f 7 [26, 27] (.f 8 [26, 28] (.f 9 [26, 29] (.w 10 [26, 30] (.f 11 [26, 31] (.f 12 [26, 32] (.f 13 [33] (.f 14 [3, 34] (.f 16 [0, 34] (.f 15 [34, 35] (.w 17 [34, 37] (.f 18 [34, 36, 38] (.f 19 [34, 39] (.w 20 [40] .fin)))))))))))))))))))))) (.s (.s .o .o) .o)))))))))) [.lf (.ptr m), .agg (Ks.mk K_u8b s)] [] R) (fun w => W_bbr_Model_modes m s R w) := ⟨by kernel_rfl⟩
theorem call_bbr_Model_modes (m : Option Pt) (s : T_u8b) (R : Rs.T [] → WP) (w : World) (h : W_bbr_Model_modes m s R w) :
    CallX Try.prog N_bbr_Model_modes ([.lf (.ptr m), .agg (Ks.mk K_u8b s)].map V1.enc) w fun v w' => ∃ x, v = (retTV (Rs.mk [] x)).enc ∧ R x w' :=
  callX_of_semF Try.func46 (by kernel_rfl) (by kernel_rfl) (sem_bbr_Model_modes m s R) h


/-- (*canter/bbr.Model).pace -/
def W_bbr_Model_pace (m : Option Pt) (R : Rs.T [] → WP) : WP :=
  call Try.prog N_bbr_Model_bw [.lf (.ptr m)] [.lf (.int .u64)] fun (r1 : Int) =>
  ite' (r1 == (0:Int)) (
  R ()) <|
  call Try.prog N_bbr_Model_bw [.lf (.ptr m)] [.lf (.int .u64)] fun (r2 : Int) =>
  call Try.prog N_bbr_Model_gain [.lf (.ptr m)] [.lf (.int .u64)] fun (r3 : Int) =>
  call Try.prog N_target_Rate [.lf (.int .u64 r2), .lf (.int .u64 r3)] [.lf (.int .u64)] fun (r4 : Int) =>
  join [.bool] (fun J5 =>
  deref m fun q7 =>
  ld [.ptr] ⟨q7.b, q7.o + 2⟩ fun (x8 : Option Pt) =>
  call Try.prog N_pipe_Pipe_Full [.lf (.ptr x8)] [.lf .bool] fun (r9 : Bool) =>
  ite' r9 (
  J5 true) <|
  deref m fun q10 =>
  ld [.int .u64] ⟨q10.b, q10.o + 8⟩ fun (x11 : Int) =>
  J5 (decide ((if (1:Int) > r4 then (1:Int) else r4) > x11))) fun (y6 : Bool) =>
  ite' y6 (
  deref m fun q12 =>
  st ⟨q12.b, q12.o + 8⟩ [.int .u64 (if (1:Int) > r4 then (1:Int) else r4)] <|
  R ()) <|
  R ()
theorem sem_bbr_Model_pace (m : Option Pt) (R : Rs.T [] → WP) : Same (semF Try.prog Try.f48 (.s (.s .o (.s .o .o)) (.s .o (.j [(24, .lf .bool)] .o (.s .o .o)))) [.lf (.ptr m)] [] R) (fun w => W_bbr_Model_pace m R w) := ⟨by kernel_rfl⟩
theorem call_bbr_Model_pace (m : Option Pt) (R : Rs.T [] → WP) (w : World) (h : W_bbr_Model_pace m R w) :
    CallX Try.prog N_bbr_Model_pace ([.lf (.ptr m)].map V1.enc) w fun v w' => ∃ x, v = (retTV (Rs.mk [] x)).enc ∧ R x w' :=
  callX_of_semF Try.func48 (by kernel_rfl) (by kernel_rfl) (sem_bbr_Model_pace m R) h


/-- (*canter/bbr.Model).policed -/
def W_bbr_Model_policed (m : Option Pt) (R : Rs.T [.lf .bool] → WP) : WP :=
  deref m fun q1 =>
  ld [.ptr] ⟨q1.b, q1.o + 5⟩ fun (x2 : Option Pt) =>
  call Try.prog N_policer_Policer_Use [.lf (.ptr x2)] [.lf (.int .u64), .lf .bool] fun (r3 : Int × Bool) =>
  R r3.2
theorem sem_bbr_Model_policed (m : Option Pt) (R : Rs.T [.lf .bool] → WP) : Same (semF Try.prog Try.f37 (.s .o (.s .o (.s .o .o))) [.lf (.ptr m)] [.lf .bool] R) (fun w => W_bbr_Model_policed m R w) := ⟨by kernel_rfl⟩
theorem call_bbr_Model_policed (m : Option Pt) (R : Rs.T [.lf .bool] → WP) (w : World) (h : W_bbr_Model_policed m R w) :
    CallX Try.prog N_bbr_Model_policed ([.lf (.ptr m)].map V1.enc) w fun v w' => ∃ x, v = (retTV (Rs.mk [.lf .bool] x)).enc ∧ R x w' :=
  callX_of_semF Try.func37 (by kernel_rfl) (by kernel_rfl) (sem_bbr_Model_policed m R) h


/-- (*canter/bbr.Model).recover -/
def W_bbr_Model_recover (d : Option Pt) (o : T_u8b) (a : Bool) (R : Rs.T [] → WP) : WP :=
  new (Ks.mk K_u8b o) fun n1 =>
  join [.bool] (fun J2 =>
  ld [.int .u64] ⟨n1, 6⟩ fun (x4 : Int) =>
  ite' (decide (x4 > (0:Int))) (
  deref d fun q5 =>
  ld [.bool] ⟨q5.b, q5.o + 11⟩ fun (x6 : Bool) =>
  J2 (!x6)) <|
  J2 false) fun (y3 : Bool) =>
  ite' y3 (
  ld [.int .u64] ⟨n1, 1⟩ fun (x7 : Int) =>
  ld [.int .u64] ⟨n1, 7⟩ fun (x8 : Int) =>
  call Try.prog N_sat_Add [.lf (.int .u64 x7), .lf (.int .u64 x8)] [.lf (.int .u64)] fun (r9 : Int) =>
  deref d fun q10 =>
  st ⟨q10.b, q10.o + 11⟩ [.bool true] <|
  deref d fun q11 =>
  st ⟨q11.b, q11.o + 12⟩ [.bool true] <|
  deref d fun q12 =>
  st ⟨q12.b, q12.o + 13⟩ [.int .u64 r9] <|
  drw <|
  deref d fun q13 =>
  deref d fun q14 =>
  ld [.int .u64] ⟨q13.b, q13.o + 10⟩ fun (x15 : Int) =>
  ld [.int .u64] ⟨q14.b, q14.o + 9⟩ fun (x16 : Int) =>
  deref d fun q17 =>
  st ⟨q17.b, q17.o + 10⟩ [.int .u64 (if x16 > x15 then x16 else x15)] <|
  R ()) <|
  deref d fun q18 =>
  ld [.bool] ⟨q18.b, q18.o + 11⟩ fun (x19 : Bool) =>
  ite' x19 (
  deref d fun q20 =>
  ld [.bool] ⟨q20.b, q20.o + 12⟩ fun (x21 : Bool) =>
  deref d fun q22 =>
  st ⟨q22.b, q22.o + 12⟩ [.bool (x21 && (!a))] <|
  drw <|
  ld [.int .u64] ⟨n1, 1⟩ fun (x23 : Int) =>
  deref d fun q24 =>
  ld [.int .u64] ⟨q24.b, q24.o + 13⟩ fun (x25 : Int) =>
  ite' (decide (x23 < x25)) (
  R ()) <|
  deref d fun q26 =>
  st ⟨q26.b, q26.o + 11⟩ [.bool false] <|
  deref d fun q27 =>
  st ⟨q27.b, q27.o + 12⟩ [.bool false] <|
  deref d fun q28 =>
  ld [.int .i64] ⟨q28.b, q28.o + 7⟩ fun (x29 : Int) =>
  ite' (x29 != (3:Int)) (
  call Try.prog N_bbr_Model_back [.lf (.ptr d)] [] fun (r30 : Unit) =>
  R ()) <|
  R ()) <|
  R ()
theorem sem_bbr_Model_recover (d : Option Pt) (o : T_u8b) (a : Bool) (R : Rs.T [] → WP) : Same (semF Try.prog Try.f49 (.s .o (.b (.j [(6, .lf .bool)] .o (.s (.s .o (.d (.f 0 [0] (.f 1 [0] (.f 5 [0] (.f 2 [32] (.f 6 [36] (.f 3 [33] (.f 7 [37] (.f 4 [34] (.f 8 [38] (.f 9 [35, 39] (.f 10 [31] (.f 11 [41] (.w 12 [40, 42] .fin))))))))))))))) (.s .o (.s (.s .o (.s (.s (.d (.f 0 [4] (.f 2 [0] (.f 1 [59] (.f 3 [61] (.f 4 [62] (.f 5 [63] (.f 6 [60, 64] .fin)))))))) (.s .o .o)) (.s .o (.s .o (.s .o .o))))) .o)))))) [.lf (.ptr d), .agg (Ks.mk K_u8b o), .lf (.bool a)] [] R) (fun w => W_bbr_Model_recover d o a R w) := ⟨by kernel_rfl⟩
theorem call_bbr_Model_recover (d : Option Pt) (o : T_u8b) (a : Bool) (R : Rs.T [] → WP) (w : World) (h : W_bbr_Model_recover d o a R w) :
    CallX Try.prog N_bbr_Model_recover ([.lf (.ptr d), .agg (Ks.mk K_u8b o), .lf (.bool a)].map V1.enc) w fun v w' => ∃ x, v = (retTV (Rs.mk [] x)).enc ∧ R x w' :=
  callX_of_semF Try.func49 (by kernel_rfl) (by kernel_rfl) (sem_bbr_Model_recover d o a R) h


/-- (*canter/bbr.Model).wideGain -/
def W_bbr_Model_wideGain (m : Option Pt) (R : Rs.T [.lf (.int .u64)] → WP) : WP :=
  deref m fun q1 =>
  ld [.int .i64] ⟨q1.b, q1.o + 7⟩ fun (x2 : Int) =>
  ite' (x2 == (2:Int)) (
  R (512:Int)) <|
  ite' (x2 == (3:Int)) (
  R (256:Int)) <|
  R (739:Int)
theorem sem_bbr_Model_wideGain (m : Option Pt) (R : Rs.T [.lf (.int .u64)] → WP) : Same (semF Try.prog Try.f81 (.s .o (.s (.s .o (.b (.s .o (.s (.s .o .o) (.s .o (.s (.s .o .o) .o)))))) (.s .o .o))) [.lf (.ptr m)] [.lf (.int .u64)] R) (fun w => W_bbr_Model_wideGain m R w) := ⟨by kernel_rfl⟩
theorem call_bbr_Model_wideGain (m : Option Pt) (R : Rs.T [.lf (.int .u64)] → WP) (w : World) (h : W_bbr_Model_wideGain m R w) :
    CallX Try.prog N_bbr_Model_wideGain ([.lf (.ptr m)].map V1.enc) w fun v w' => ∃ x, v = (retTV (Rs.mk [.lf (.int .u64)] x)).enc ∧ R x w' :=
  callX_of_semF Try.func81 (by kernel_rfl) (by kernel_rfl) (sem_bbr_Model_wideGain m R) h


/-- (*canter/bbr.Model).window -/
def W_bbr_Model_window (d : Option Pt) (o : T_u8b) (a : Int) (R : Rs.T [] → WP) : WP :=
  new (Ks.mk K_u8b o) fun n1 =>
  drw <|
  deref d fun q2 =>
  ld [.int .u64] ⟨n1, 6⟩ fun (x3 : Int) =>
  deref d fun q4 =>
  ld [.int .u64] ⟨q2.b, q2.o + 9⟩ fun (x5 : Int) =>
  ld [.int .u64] ⟨q4.b, q4.o + 6⟩ fun (x6 : Int) =>
  call Try.prog N_sat_Sub [.lf (.int .u64 x5), .lf (.int .u64 x3)] [.lf (.int .u64)] fun (r7 : Int) =>
  chk ⟨q4.b, q4.o + 6⟩ (Ks.mk [.int .u64] x6) <|
  deref d fun q8 =>
  st ⟨q8.b, q8.o + 9⟩ [.int .u64 (if x6 > r7 then x6 else r7)] <|
  join [] (fun J9 =>
  deref d fun q11 =>
  ld [.bool] ⟨q11.b, q11.o + 12⟩ fun (x12 : Bool) =>
  ite' x12 (
  drw <|
  deref d fun q13 =>
  ld [.int .u64] ⟨n1, 7⟩ fun (x14 : Int) =>
  ld [.int .u64] ⟨n1, 5⟩ fun (x15 : Int) =>
  ld [.int .u64] ⟨q13.b, q13.o + 9⟩ fun (x16 : Int) =>
  call Try.prog N_sat_Add [.lf (.int .u64 x14), .lf (.int .u64 x15)] [.lf (.int .u64)] fun (r17 : Int) =>
  chk ⟨q13.b, q13.o + 9⟩ (Ks.mk [.int .u64] x16) <|
  deref d fun q18 =>
  st ⟨q18.b, q18.o + 9⟩ [.int .u64 (if r17 > x16 then r17 else x16)] <|
  J9 ()) <|
  ld [.int .u64] ⟨n1, 5⟩ fun (x19 : Int) =>
  ite' (decide (x19 > (0:Int))) (
  drw <|
  deref d fun q20 =>
  deref d fun q21 =>
  ld [.ptr] ⟨q20.b, q20.o + 4⟩ fun (x22 : Option Pt) =>
  ld [.int .u64] ⟨q21.b, q21.o + 6⟩ fun (x23 : Int) =>
  call Try.prog N_bbr_Model_bw [.lf (.ptr d)] [.lf (.int .u64)] fun (r24 : Int) =>
  chk ⟨q21.b, q21.o + 6⟩ (Ks.mk [.int .u64] x23) <|
  chk ⟨q20.b, q20.o + 4⟩ (Ks.mk [.ptr] x22) <|
  call Try.prog N_probe_Probe_Best [.lf (.ptr x22)] [.lf (.int .u64)] fun (r25 : Int) =>
  chk ⟨q21.b, q21.o + 6⟩ (Ks.mk [.int .u64] x23) <|
  call Try.prog N_bbr_Model_wideGain [.lf (.ptr d)] [.lf (.int .u64)] fun (r26 : Int) =>
  chk ⟨q21.b, q21.o + 6⟩ (Ks.mk [.int .u64] x23) <|
  call Try.prog N_target_Window [.lf (.int .u64 r24), .lf (.int .u64 r25), .lf (.int .u64 r26), .lf (.int .u64 a), .lf (.int .u64 x23)] [.lf (.int .u64)] fun (r27 : Int) =>
  deref d fun q28 =>
  ld [.ptr] ⟨q28.b, q28.o + 2⟩ fun (x29 : Option Pt) =>
  call Try.prog N_pipe_Pipe_Full [.lf (.ptr x29)] [.lf .bool] fun (r30 : Bool) =>
  ite' r30 (
  drw <|
  deref d fun q31 =>
  ld [.int .u64] ⟨n1, 5⟩ fun (x32 : Int) =>
  ld [.int .u64] ⟨q31.b, q31.o + 9⟩ fun (x33 : Int) =>
  call Try.prog N_sat_Add [.lf (.int .u64 x33), .lf (.int .u64 x32)] [.lf (.int .u64)] fun (r34 : Int) =>
  deref d fun q35 =>
  st ⟨q35.b, q35.o + 9⟩ [.int .u64 (if r27 < r34 then r27 else r34)] <|
  J9 ()) <|
  join [.bool] (fun J36 =>
  drw <|
  deref d fun q38 =>
  ld [.int .u64] ⟨q38.b, q38.o + 9⟩ fun (x39 : Int) =>
  ite' (decide (x39 < r27)) (
  J36 true) <|
  ld [.int .u64] ⟨n1, 1⟩ fun (x40 : Int) =>
  deref d fun q41 =>
  ld [.int .u64] ⟨q41.b, q41.o + 6⟩ fun (x42 : Int) =>
  J36 (decide (x40 < (IntKind.u64.wrap ((10:Int) * x42))))) fun (y37 : Bool) =>
  ite' y37 (
  drw <|
  deref d fun q43 =>
  ld [.int .u64] ⟨n1, 5⟩ fun (x44 : Int) =>
  ld [.int .u64] ⟨q43.b, q43.o + 9⟩ fun (x45 : Int) =>
  call Try.prog N_sat_Add [.lf (.int .u64 x45), .lf (.int .u64 x44)] [.lf (.int .u64)] fun (r46 : Int) =>
  deref d fun q47 =>
  st ⟨q47.b, q47.o + 9⟩ [.int .u64 r46] <|
  J9 ()) <|
  J9 ()) <|
  J9 ()) fun (y10 : Unit) =>
  drw <|
  deref d fun q48 =>
  ld [.int .u64] ⟨q48.b, q48.o + 9⟩ fun (x49 : Int) =>
  call Try.prog N_bbr_Model_floor [.lf (.ptr d)] [.lf (.int .u64)] fun (r50 : Int) =>
  chk ⟨q48.b, q48.o + 9⟩ (Ks.mk [.int .u64] x49) <|
  deref d fun q51 =>
  st ⟨q51.b, q51.o + 9⟩ [.int .u64 (if r50 > x49 then r50 else x49)] <|
  deref d fun q52 =>
  ld [.int .i64] ⟨q52.b, q52.o + 7⟩ fun (x53 : Int) =>
  ite' (x53 == (3:Int)) (
  call Try.prog N_bbr_Model_floor [.lf (.ptr d)] [.lf (.int .u64)] fun (r54 : Int) =>
  deref d fun q55 =>
  st ⟨q55.b, q55.o + 9⟩ [.int .u64 r54] <|
  R ()) <|
  R ()
theorem sem_bbr_Model_window (d : Option Pt) (o : T_u8b) (a : Int) (R : Rs.T [] → WP) : Same (semF Try.prog Try.f50 (.s .o (.s (.d (.f 0 [0] (.f 1 [0] (.f 5 [4] (.f 8 [0] (.f 2 [8] (.f 6 [12] (.f 9 [15] (.f 3 [9] (.f 10 [16] (.f 4 [10] (.f 11 [17] (.w 7 [11, 13] (.f 12 [14, 18] (.f 13 [7] (.f 14 [20] (.w 15 [19, 21] .fin))))))))))))))))) (.j [] (.s .o (.s (.d (.f 0 [0] (.f 1 [0] (.f 5 [4] (.f 7 [4] (.f 2 [27] (.f 6 [31] (.f 8 [33] (.f 3 [28] (.f 4 [29] (.w 9 [32, 34] (.f 10 [30, 35] (.f 11 [26] (.f 12 [37] (.w 13 [36, 38] .fin))))))))))))))) (.s .o (.s (.s (.d (.f 0 [0] (.f 2 [0] (.f 7 [0] (.f 9 [2] (.f 10 [0] (.f 3 [44] (.f 11 [52] (.f 4 [45] (.f 12 [53] (.f 5 [46] (.f 13 [54] (.w 1 [42] (.w 6 [47] (.w 8 [49] (.w 14 [43, 48, 50, 51, 55] (.w 15 [56] .fin))))))))))))))))) (.s .o (.s (.d (.f 0 [0] (.f 1 [0] (.f 5 [4] (.f 8 [6] (.f 2 [63] (.f 6 [67] (.f 3 [64] (.f 4 [65] (.w 7 [66, 68] (.f 9 [69, 70] (.f 10 [62] (.f 11 [72] (.w 12 [71, 73] .fin)))))))))))))) (.j [(89, .lf .bool)] (.d (.f 0 [0] (.f 4 [6] (.f 1 [74] (.f 2 [75] (.f 3 [76] (.f 5 [77, 78] (.f 6 [79] (.f 7 [4, 80] (.f 9 [0, 80] (.f 8 [80, 81] (.f 10 [80, 83] (.f 11 [80, 84] (.f 12 [80, 85] (.f 13 [80, 86] (.f 14 [80, 82, 87] (.f 15 [80, 88] .fin))))))))))))))))) (.s (.d (.f 0 [0] (.f 1 [0] (.f 5 [4] (.f 2 [91] (.f 6 [95] (.f 3 [92] (.f 4 [93] (.w 7 [94, 96] (.f 8 [90] (.f 9 [98] (.w 10 [97, 99] .fin)))))))))))) .o))))) .o)))) (.s (.d (.f 0 [0] (.f 1 [0] (.f 5 [0] (.f 2 [101] (.f 3 [102] (.f 4 [103] (.w 6 [105] (.f 7 [104, 106] (.f 8 [100] (.f 9 [108] (.w 10 [107, 109] .fin)))))))))))) (.s .o (.s .o .o)))))) [.lf (.ptr d), .agg (Ks.mk K_u8b o), .lf (.int .u64 a)] [] R) (fun w => W_bbr_Model_window d o a R w) := ⟨by kernel_rfl⟩
theorem call_bbr_Model_window (d : Option Pt) (o : T_u8b) (a : Int) (R : Rs.T [] → WP) (w : World) (h : W_bbr_Model_window d o a R w) :
    CallX Try.prog N_bbr_Model_window ([.lf (.ptr d), .agg (Ks.mk K_u8b o), .lf (.int .u64 a)].map V1.enc) w fun v w' => ∃ x, v = (retTV (Rs.mk [] x)).enc ∧ R x w' :=
  callX_of_semF Try.func50 (by kernel_rfl) (by kernel_rfl) (sem_bbr_Model_window d o a R) h


/-- canter/bbr.New -/
def W_bbr_New (mss : Int) (R : Rs.T [.lf .ptr] → WP) : WP :=
  call Try.prog N_winmax_New [.lf (.int .u64 (10:Int))] [.lf .ptr] fun (r1 : Option Pt) =>
  call Try.prog N_rounds_New [] [.lf .ptr] fun (r2 : Option Pt) =>
  call Try.prog N_pipe_New [] [.lf .ptr] fun (r3 : Option Pt) =>
  call Try.prog N_cycle_New [] [.lf .ptr] fun (r4 : Option Pt) =>
  call Try.prog N_probe_New [] [.lf .ptr] fun (r5 : Option Pt) =>
  call Try.prog N_policer_New [] [.lf .ptr] fun (r6 : Option Pt) =>
  new [.ptr r1, .ptr r2, .ptr r3, .ptr r4, .ptr r5, .ptr r6, .int .u64 (if (9000:Int) < (if (100:Int) > mss then (100:Int) else mss) then (9000:Int) else (if (100:Int) > mss then (100:Int) else mss)), .int .i64 (0:Int), .int .u64 (0:Int), .int .u64 (0:Int), .int .u64 (0:Int), .bool false, .bool false, .int .u64 (0:Int)] fun n7 =>
  deref (some ⟨n7, 0⟩) fun q8 =>
  st ⟨q8.b, q8.o + 9⟩ [.int .u64 (IntKind.u64.wrap ((10:Int) * (if (9000:Int) < (if (100:Int) > mss then (100:Int) else mss) then (9000:Int) else (if (100:Int) > mss then (100:Int) else mss))))] <|
  deref (some ⟨n7, 0⟩) fun q9 =>
  ld [.int .u64] ⟨q9.b, q9.o + 9⟩ fun (x10 : Int) =>
  call Try.prog N_target_Rate [.lf (.int .u64 (IntKind.u64.wrap (x10 * (1000:Int)))), .lf (.int .u64 (739:Int))] [.lf (.int .u64)] fun (r11 : Int) =>
  deref (some ⟨n7, 0⟩) fun q12 =>
  st ⟨q12.b, q12.o + 8⟩ [.int .u64 r11] <|
  R (some ⟨n7, 0⟩)
theorem sem_bbr_New (mss : Int) (R : Rs.T [.lf .ptr] → WP) : Same (semF Try.prog Try.f11 (.s .o (.s .o (.s .o (.s .o (.s .o (.s .o .o)))))) [.lf (.int .u64 mss)] [.lf .ptr] R) (fun w => W_bbr_New mss R w) := ⟨by kernel_rfl⟩
theorem call_bbr_New (mss : Int) (R : Rs.T [.lf .ptr] → WP) (w : World) (h : W_bbr_New mss R w) :
    CallX Try.prog N_bbr_New ([.lf (.int .u64 mss)].map V1.enc) w fun v w' => ∃ x, v = (retTV (Rs.mk [.lf .ptr] x)).enc ∧ R x w' :=
  callX_of_semF Try.func11 (by kernel_rfl) (by kernel_rfl) (sem_bbr_New mss R) h


/-- canter/canterlaw17.BbrTells -/
def W_canterlaw17_BbrTells (d : Int) (o : Sl) (a : Sl) (a' : Bool) (R : Rs.T [.lf .bool] → WP) : WP :=
  call Try.prog N_bbr_New [.lf (.int .u64 d)] [.lf .ptr] fun (r1 : Option Pt) =>
  call Try.prog N_canterref08_NewModel [.lf (.int .u64 d)] [.lf .ptr] fun (r2 : Option Pt) =>
  join [] (fun J3 =>
  call Try.prog N_canterlaw17_awake [] [.lf .bool] fun (r5 : Bool) =>
  ite' ((!r5) || r1.isNone) (
  R false) <|
  call Try.prog N_bbr_Model_State [.lf (.ptr r1)] [.agg K_i2u6b2] fun (r6 : T_i2u6b2) =>
  call Try.prog N_canterref08_Model_State [.lf (.ptr r2)] [.agg K_i2u6b2] fun (r7 : T_i2u6b2) =>
  ite' (!((r6.1 == r7.1) && ((r6.2.1 == r7.2.1) && ((r6.2.2.1 == r7.2.2.1) && ((r6.2.2.2.1 == r7.2.2.2.1) && ((r6.2.2.2.2.1 == r7.2.2.2.2.1) && ((r6.2.2.2.2.2.1 == r7.2.2.2.2.2.1) && ((r6.2.2.2.2.2.2.1 == r7.2.2.2.2.2.2.1) && ((r6.2.2.2.2.2.2.2.1 == r7.2.2.2.2.2.2.2.1) && ((r6.2.2.2.2.2.2.2.2.1 == r7.2.2.2.2.2.2.2.2.1) && (r6.2.2.2.2.2.2.2.2.2 == r7.2.2.2.2.2.2.2.2.2))))))))))) (
  R false) <|
  J3 ()) fun (y4 : Unit) =>
  loop [.int .i64] (0:Int) fun J8 (y9 : Int) =>
  ite' ((decide (y9 < ((o.len : Nat) : Int))) && (decide (y9 < (100:Int)))) (
  idx o y9 9 fun q10 =>
  ld K_u8b q10 fun (x11 : T_u8b) =>
  new [.int .u64 (0:Int), .int .u64 (0:Int), .int .u64 (0:Int), .int .u64 (0:Int), .int .u64 (0:Int), .int .u64 (0:Int), .int .u64 (0:Int), .int .u64 (0:Int), .bool false] fun n12 =>
  st ⟨n12, 0⟩ (Ks.mk K_u8b x11) <|
  join [] (fun J13 =>
  ite' (!a') (
  ld K_u8b ⟨n12, 0⟩ fun (x15 : T_u8b) =>
  call Try.prog N_canterplay_Sample [.agg (Ks.mk K_u8b x15)] [.agg K_u8b] fun (r16 : T_u8b) =>
  st ⟨n12, 0⟩ (Ks.mk K_u8b r16) <|
  J13 ()) <|
  J13 ()) fun (y14 : Unit) =>
  join [.int .u64] (fun J17 =>
  ite' (decide (y9 < ((a.len : Nat) : Int))) (
  idx a y9 1 fun q19 =>
  ld [.int .u64] q19 fun (x20 : Int) =>
  J17 x20) <|
  J17 (2000:Int)) fun (y18 : Int) =>
  ld K_u8b ⟨n12, 0⟩ fun (x21 : T_u8b) =>
  call Try.prog N_bbr_Model_Update [.lf (.ptr r1), .agg (Ks.mk K_u8b x21), .lf (.int .u64 y18)] [.agg K_i2u6b2] fun (r22 : T_i2u6b2) =>
  new [.int .i64 (0:Int), .int .i64 (0:Int), .int .u64 (0:Int), .int .u64 (0:Int), .int .u64 (0:Int), .int .u64 (0:Int), .int .u64 (0:Int), .int .u64 (0:Int), .bool false, .bool false] fun n23 =>
  st ⟨n23, 0⟩ (Ks.mk K_i2u6b2 r22) <|
  drw <|
  ld K_i2u6b2 ⟨n23, 0⟩ fun (x24 : T_i2u6b2) =>
  ld K_u8b ⟨n12, 0⟩ fun (x25 : T_u8b) =>
  call Try.prog N_canterref08_Model_Update [.lf (.ptr r2), .agg (Ks.mk K_u8b x25), .lf (.int .u64 y18)] [.agg K_i2u6b2] fun (r26 : T_i2u6b2) =>
  chk ⟨n23, 0⟩ (Ks.mk K_i2u6b2 x24) <|
  ite' (!((x24.1 == r26.1) && ((x24.2.1 == r26.2.1) && ((x24.2.2.1 == r26.2.2.1) && ((x24.2.2.2.1 == r26.2.2.2.1) && ((x24.2.2.2.2.1 == r26.2.2.2.2.1) && ((x24.2.2.2.2.2.1 == r26.2.2.2.2.2.1) && ((x24.2.2.2.2.2.2.1 == r26.2.2.2.2.2.2.1) && ((x24.2.2.2.2.2.2.2.1 == r26.2.2.2.2.2.2.2.1) && ((x24.2.2.2.2.2.2.2.2.1 == r26.2.2.2.2.2.2.2.2.1) && (x24.2.2.2.2.2.2.2.2.2 == r26.2.2.2.2.2.2.2.2.2))))))))))) (
  R false) <|
  ld K_i2u6b2 ⟨n23, 0⟩ fun (x27 : T_i2u6b2) =>
  call Try.prog N_bbr_Model_State [.lf (.ptr r1)] [.agg K_i2u6b2] fun (r28 : T_i2u6b2) =>
  chk ⟨n23, 0⟩ (Ks.mk K_i2u6b2 x27) <|
  ite' (!((r28.1 == x27.1) && ((r28.2.1 == x27.2.1) && ((r28.2.2.1 == x27.2.2.1) && ((r28.2.2.2.1 == x27.2.2.2.1) && ((r28.2.2.2.2.1 == x27.2.2.2.2.1) && ((r28.2.2.2.2.2.1 == x27.2.2.2.2.2.1) && ((r28.2.2.2.2.2.2.1 == x27.2.2.2.2.2.2.1) && ((r28.2.2.2.2.2.2.2.1 == x27.2.2.2.2.2.2.2.1) && ((r28.2.2.2.2.2.2.2.2.1 == x27.2.2.2.2.2.2.2.2.1) && (r28.2.2.2.2.2.2.2.2.2 == x27.2.2.2.2.2.2.2.2.2))))))))))) (
  R false) <|
  J8 (IntKind.i64.wrap (y9 + (1:Int)))) <|
  R true
theorem sem_canterlaw17_BbrTells (d : Int) (o : Sl) (a : Sl) (a' : Bool) (R : Rs.T [.lf .bool] → WP) : Same (semF Try.prog Try.f3 (.s .o (.s .o (.j [] (.s .o (.s (.s .o .o) .o)) (.s (.s .o (.b (.l [(11, .lf (.int .i64))] (.s (.s .o (.s .o .o)) (.s (.b (.s .o (.j [] (.s .o (.s .o .o)) (.j [(13, .lf (.int .u64))] (.s .o (.s .o .o)) (.s .o (.s (.d (.f 0 [14] (.f 1 [10] (.f 2 [12] (.f 3 [13] (.w 4 [63, 64, 65] (.f 5 [62, 66] (.f 6 [67] (.f 7 [9, 68] (.f 9 [14, 68] (.w 8 [68, 69] (.f 10 [68, 70, 71] (.f 11 [68, 72] .fin))))))))))))) (.s (.s .o .o) .o))))))) .o))))) (.s .o .o))))) [.lf (.int .u64 d), .lf (.sl o), .lf (.sl a), .lf (.bool a')] [.lf .bool] R) (fun w => W_canterlaw17_BbrTells d o a a' R w) := ⟨by kernel_rfl⟩
theorem call_canterlaw17_BbrTells (d : Int) (o : Sl) (a : Sl) (a' : Bool) (R : Rs.T [.lf .bool] → WP) (w : World) (h : W_canterlaw17_BbrTells d o a a' R w) :
    CallX Try.prog N_canterlaw17_BbrTells ([.lf (.int .u64 d), .lf (.sl o), .lf (.sl a), .lf (.bool a')].map V1.enc) w fun v w' => ∃ x, v = (retTV (Rs.mk [.lf .bool] x)).enc ∧ R x w' :=
  callX_of_semF Try.func3 (by kernel_rfl) (by kernel_rfl) (sem_canterlaw17_BbrTells d o a a' R) h


/-- canter/canterlaw17.awake -/
def W_canterlaw17_awake  (R : Rs.T [.lf .bool] → WP) : WP :=
  call Try.prog N_bbr_New [.lf (.int .u64 (1000:Int))] [.lf .ptr] fun (r1 : Option Pt) =>
  join [.bool] (fun J2 =>
  ite' r1.isNone (
  J2 true) <|
  call Try.prog N_bbr_Model_State [.lf (.ptr r1)] [.agg K_i2u6b2] fun (r4 : T_i2u6b2) =>
  ite' (r4.2.2.2.1 != (10000:Int)) (
  J2 true) <|
  call Try.prog N_bbr_Model_State [.lf (.ptr r1)] [.agg K_i2u6b2] fun (r5 : T_i2u6b2) =>
  J2 (r5.2.2.2.2.2.2.1 != (739:Int))) fun (y3 : Bool) =>
  ite' y3 (
  R false) <|
  call Try.prog N_bbr_Model_Update [.lf (.ptr r1), .agg [.int .u64 (1000:Int), .int .u64 (1000:Int), .int .u64 (0:Int), .int .u64 (1000:Int), .int .u64 (1000:Int), .int .u64 (1000:Int), .int .u64 (0:Int), .int .u64 (0:Int), .bool false], .lf (.int .u64 (2000:Int))] [.agg K_i2u6b2] fun (r6 : T_i2u6b2) =>
  new [.int .i64 (0:Int), .int .i64 (0:Int), .int .u64 (0:Int), .int .u64 (0:Int), .int .u64 (0:Int), .int .u64 (0:Int), .int .u64 (0:Int), .int .u64 (0:Int), .bool false, .bool false] fun n7 =>
  st ⟨n7, 0⟩ (Ks.mk K_i2u6b2 r6) <|
  ld [.int .u64] ⟨n7, 4⟩ fun (x8 : Int) =>
  ite' (x8 == (1000000000:Int)) (
  ld [.int .u64] ⟨n7, 5⟩ fun (x9 : Int) =>
  ite' (x9 == (1000:Int)) (
  ld [.int .u64] ⟨n7, 7⟩ fun (x10 : Int) =>
  R (x10 == (1:Int))) <|
  R false) <|
  R false
theorem sem_canterlaw17_awake  (R : Rs.T [.lf .bool] → WP) : Same (semF Try.prog Try.f13 (.s .o (.s .o (.s (.j [(17, .lf .bool)] .o (.s (.s .o .o) .o)) (.s .o (.s .o .o))))) [] [.lf .bool] R) (fun w => W_canterlaw17_awake  R w) := ⟨by kernel_rfl⟩
theorem call_canterlaw17_awake  (R : Rs.T [.lf .bool] → WP) (w : World) (h : W_canterlaw17_awake  R w) :
    CallX Try.prog N_canterlaw17_awake ([].map V1.enc) w fun v w' => ∃ x, v = (retTV (Rs.mk [.lf .bool] x)).enc ∧ R x w' :=
  callX_of_semF Try.func13 (by kernel_rfl) (by kernel_rfl) (sem_canterlaw17_awake  R) h


/-- canter/canterplay.Sample -/
def W_canterplay_Sample (s : T_u8b) (R : Rs.T [.agg K_u8b] → WP) : WP :=
  new (Ks.mk K_u8b s) fun n1 =>
  new [.int .u64 (0:Int), .int .u64 (0:Int), .int .u64 (0:Int), .int .u64 (0:Int), .int .u64 (0:Int), .int .u64 (0:Int), .int .u64 (0:Int), .int .u64 (0:Int), .bool false] fun n2 =>
  ld [.int .u64] ⟨n1, 5⟩ fun (x3 : Int) =>
  ld [.int .u64] ⟨n1, 6⟩ fun (x4 : Int) =>
  ld [.int .u64] ⟨n1, 7⟩ fun (x5 : Int) =>
  st ⟨n1, 5⟩ [.int .u64 (x3.tmod (1099511627776:Int))] <|
  st ⟨n1, 6⟩ [.int .u64 (x4.tmod (1099511627776:Int))] <|
  st ⟨n1, 7⟩ [.int .u64 (x5.tmod (1099511627776:Int))] <|
  ld K_u8b ⟨n1, 0⟩ fun (x6 : T_u8b) =>
  st ⟨n2, 0⟩ (Ks.mk K_u8b x6) <|
  ld K_u8b ⟨n2, 0⟩ fun (x7 : T_u8b) =>
  R x7
theorem sem_canterplay_Sample (s : T_u8b) (R : Rs.T [.agg K_u8b] → WP) : Same (semF Try.prog Try.f16 (.s .o (.s .o (.s .o .o))) [.agg (Ks.mk K_u8b s)] [.agg K_u8b] R) (fun w => W_canterplay_Sample s R w) := ⟨by kernel_rfl⟩
theorem call_canterplay_Sample (s : T_u8b) (R : Rs.T [.agg K_u8b] → WP) (w : World) (h : W_canterplay_Sample s R w) :
    CallX Try.prog N_canterplay_Sample ([.agg (Ks.mk K_u8b s)].map V1.enc) w fun v w' => ∃ x, v = (retTV (Rs.mk [.agg K_u8b] x)).enc ∧ R x w' :=
  callX_of_semF Try.func16 (by kernel_rfl) (by kernel_rfl) (sem_canterplay_Sample s R) h


/-- canter/canterref01.Add -/
def W_canterref01_Add (a : Int) (b : Int) (R : Rs.T [.lf (.int .u64)] → WP) : WP :=
  ite' (decide (a > (IntKind.u64.wrap ((18446744073709551615:Int) - b)))) (
  R (18446744073709551615:Int)) <|
  R (IntKind.u64.wrap (a + b))
theorem sem_canterref01_Add (a : Int) (b : Int) (R : Rs.T [.lf (.int .u64)] → WP) : Same (semF Try.prog Try.f22 (.s .o (.s (.s .o (.s (.s .o .o) .o)) (.s .o .o))) [.lf (.int .u64 a), .lf (.int .u64 b)] [.lf (.int .u64)] R) (fun w => W_canterref01_Add a b R w) := ⟨by kernel_rfl⟩
theorem call_canterref01_Add (a : Int) (b : Int) (R : Rs.T [.lf (.int .u64)] → WP) (w : World) (h : W_canterref01_Add a b R w) :
    CallX Try.prog N_canterref01_Add ([.lf (.int .u64 a), .lf (.int .u64 b)].map V1.enc) w fun v w' => ∃ x, v = (retTV (Rs.mk [.lf (.int .u64)] x)).enc ∧ R x w' :=
  callX_of_semF Try.func22 (by kernel_rfl) (by kernel_rfl) (sem_canterref01_Add a b R) h


/-- canter/canterref01.Bdp -/
def W_canterref01_Bdp (bw : Int) (rtt : Int) (gain : Int) (R : Rs.T [.lf (.int .u64)] → WP) : WP :=
  call Try.prog N_canterref01_MulDiv [.lf (.int .u64 bw), .lf (.int .u64 rtt), .lf (.int .u64 (1000000000:Int))] [.lf (.int .u64)] fun (r1 : Int) =>
  call Try.prog N_canterref01_MulDiv [.lf (.int .u64 r1), .lf (.int .u64 gain), .lf (.int .u64 (256:Int))] [.lf (.int .u64)] fun (r2 : Int) =>
  R r2
theorem sem_canterref01_Bdp (bw : Int) (rtt : Int) (gain : Int) (R : Rs.T [.lf (.int .u64)] → WP) : Same (semF Try.prog Try.f62 (.s .o (.s .o .o)) [.lf (.int .u64 bw), .lf (.int .u64 rtt), .lf (.int .u64 gain)] [.lf (.int .u64)] R) (fun w => W_canterref01_Bdp bw rtt gain R w) := ⟨by kernel_rfl⟩
theorem call_canterref01_Bdp (bw : Int) (rtt : Int) (gain : Int) (R : Rs.T [.lf (.int .u64)] → WP) (w : World) (h : W_canterref01_Bdp bw rtt gain R w) :
    CallX Try.prog N_canterref01_Bdp ([.lf (.int .u64 bw), .lf (.int .u64 rtt), .lf (.int .u64 gain)].map V1.enc) w fun v w' => ∃ x, v = (retTV (Rs.mk [.lf (.int .u64)] x)).enc ∧ R x w' :=
  callX_of_semF Try.func62 (by kernel_rfl) (by kernel_rfl) (sem_canterref01_Bdp bw rtt gain R) h


/-- canter/canterref01.Div -/
def W_canterref01_Div (hi : Int) (lo : Int) (c : Int) (R : Rs.T [.lf (.int .u64), .lf (.int .i64)] → WP) : WP :=
  ite' (c == (0:Int)) (
  R ((0:Int), (1:Int))) <|
  ite' (decide (hi ≥ c)) (
  R ((0:Int), (3:Int))) <|
  loop K_u3i (lo, (0:Int), hi, (0:Int)) fun J1 (y2 : T_u3i) =>
  ite' (decide (y2.2.2.2 < (64:Int))) (
  req (0 ≤ (63:Int)) <|
  req (0 ≤ (1:Int)) <|
  req (0 ≤ (63:Int)) <|
  req (0 ≤ (1:Int)) <|
  req (0 ≤ (1:Int)) <|
  ite' (((y2.2.2.1.fdiv (2 ^ min (63:Int).toNat IntKind.u64.bits)) == (1:Int)) || (decide ((IntKind.u64.wrap (BitVec.ofInt IntKind.u64.bits (IntKind.u64.wrap (y2.2.2.1 * 2 ^ min (1:Int).toNat IntKind.u64.bits)) ||| BitVec.ofInt IntKind.u64.bits (y2.1.fdiv (2 ^ min (63:Int).toNat IntKind.u64.bits))).toNat) ≥ c))) (
  J1 ((IntKind.u64.wrap (y2.1 * 2 ^ min (1:Int).toNat IntKind.u64.bits)), (IntKind.u64.wrap (BitVec.ofInt IntKind.u64.bits (IntKind.u64.wrap (y2.2.1 * 2 ^ min (1:Int).toNat IntKind.u64.bits)) ||| BitVec.ofInt IntKind.u64.bits (1:Int)).toNat), (IntKind.u64.wrap ((IntKind.u64.wrap (BitVec.ofInt IntKind.u64.bits (IntKind.u64.wrap (y2.2.2.1 * 2 ^ min (1:Int).toNat IntKind.u64.bits)) ||| BitVec.ofInt IntKind.u64.bits (y2.1.fdiv (2 ^ min (63:Int).toNat IntKind.u64.bits))).toNat) - c)), (IntKind.i64.wrap (y2.2.2.2 + (1:Int))))) <|
  J1 ((IntKind.u64.wrap (y2.1 * 2 ^ min (1:Int).toNat IntKind.u64.bits)), (IntKind.u64.wrap (y2.2.1 * 2 ^ min (1:Int).toNat IntKind.u64.bits)), (IntKind.u64.wrap (BitVec.ofInt IntKind.u64.bits (IntKind.u64.wrap (y2.2.2.1 * 2 ^ min (1:Int).toNat IntKind.u64.bits)) ||| BitVec.ofInt IntKind.u64.bits (y2.1.fdiv (2 ^ min (63:Int).toNat IntKind.u64.bits))).toNat), (IntKind.i64.wrap (y2.2.2.2 + (1:Int))))) <|
  R (y2.2.1, (0:Int))
theorem sem_canterref01_Div (hi : Int) (lo : Int) (c : Int) (R : Rs.T [.lf (.int .u64), .lf (.int .i64)] → WP) : Same (semF Try.prog Try.f60 (.s .o (.s (.s .o (.s (.s .o .o) .o)) (.s (.s .o (.s (.s .o .o) .o)) (.s .o (.s (.s .o (.b (.l [(1, .lf (.int .u64)), (8, .lf (.int .u64)), (9, .lf (.int .u64)), (10, .lf (.int .i64))] (.s (.s .o (.s .o .o)) (.s (.b (.s .o (.s .o (.s .o (.s .o (.s .o (.s (.s .o .o) .o))))))) .o))))) (.s .o .o)))))) [.lf (.int .u64 hi), .lf (.int .u64 lo), .lf (.int .u64 c)] [.lf (.int .u64), .lf (.int .i64)] R) (fun w => W_canterref01_Div hi lo c R w) := ⟨by kernel_rfl⟩
theorem call_canterref01_Div (hi : Int) (lo : Int) (c : Int) (R : Rs.T [.lf (.int .u64), .lf (.int .i64)] → WP) (w : World) (h : W_canterref01_Div hi lo c R w) :
    CallX Try.prog N_canterref01_Div ([.lf (.int .u64 hi), .lf (.int .u64 lo), .lf (.int .u64 c)].map V1.enc) w fun v w' => ∃ x, v = (retTV (Rs.mk [.lf (.int .u64), .lf (.int .i64)] x)).enc ∧ R x w' :=
  callX_of_semF Try.func60 (by kernel_rfl) (by kernel_rfl) (sem_canterref01_Div hi lo c R) h


/-- canter/canterref01.Mul -/
def W_canterref01_Mul (a : Int) (b : Int) (R : Rs.T [.lf (.int .u64)] → WP) : WP :=
  ite' (decide (b > (0:Int))) (
  req (b ≠ 0) <|
  ite' (decide (a > (IntKind.u64.wrap ((18446744073709551615:Int).tdiv b)))) (
  R (18446744073709551615:Int)) <|
  R (IntKind.u64.wrap (a * b))) <|
  R (IntKind.u64.wrap (a * b))
theorem sem_canterref01_Mul (a : Int) (b : Int) (R : Rs.T [.lf (.int .u64)] → WP) : Same (semF Try.prog Try.f61 (.s .o (.s (.s .o (.s (.s .o .o) .o)) (.s .o .o))) [.lf (.int .u64 a), .lf (.int .u64 b)] [.lf (.int .u64)] R) (fun w => W_canterref01_Mul a b R w) := ⟨by kernel_rfl⟩
theorem call_canterref01_Mul (a : Int) (b : Int) (R : Rs.T [.lf (.int .u64)] → WP) (w : World) (h : W_canterref01_Mul a b R w) :
    CallX Try.prog N_canterref01_Mul ([.lf (.int .u64 a), .lf (.int .u64 b)].map V1.enc) w fun v w' => ∃ x, v = (retTV (Rs.mk [.lf (.int .u64)] x)).enc ∧ R x w' :=
  callX_of_semF Try.func61 (by kernel_rfl) (by kernel_rfl) (sem_canterref01_Mul a b R) h


/-- canter/canterref01.MulDiv -/
def W_canterref01_MulDiv (a : Int) (b : Int) (c : Int) (R : Rs.T [.lf (.int .u64)] → WP) : WP :=
  call Try.prog N_canterref01_Wide [.lf (.int .u64 a), .lf (.int .u64 b)] [.lf (.int .u64), .lf (.int .u64)] fun (r1 : Int × Int) =>
  ite' ((r1.1 == (0:Int)) && (r1.2 == (0:Int))) (
  R (0:Int)) <|
  call Try.prog N_canterref01_Div [.lf (.int .u64 r1.1), .lf (.int .u64 r1.2), .lf (.int .u64 c)] [.lf (.int .u64), .lf (.int .i64)] fun (r2 : Int × Int) =>
  ite' (r2.2 != (0:Int)) (
  R (18446744073709551615:Int)) <|
  R r2.1
theorem sem_canterref01_MulDiv (a : Int) (b : Int) (c : Int) (R : Rs.T [.lf (.int .u64)] → WP) : Same (semF Try.prog Try.f19 (.s .o (.s .o (.s (.s .o (.s (.s .o .o) .o)) (.s .o (.s (.s .o (.s (.s .o .o) .o)) (.s .o .o)))))) [.lf (.int .u64 a), .lf (.int .u64 b), .lf (.int .u64 c)] [.lf (.int .u64)] R) (fun w => W_canterref01_MulDiv a b c R w) := ⟨by kernel_rfl⟩
theorem call_canterref01_MulDiv (a : Int) (b : Int) (c : Int) (R : Rs.T [.lf (.int .u64)] → WP) (w : World) (h : W_canterref01_MulDiv a b c R w) :
    CallX Try.prog N_canterref01_MulDiv ([.lf (.int .u64 a), .lf (.int .u64 b), .lf (.int .u64 c)].map V1.enc) w fun v w' => ∃ x, v = (retTV (Rs.mk [.lf (.int .u64)] x)).enc ∧ R x w' :=
  callX_of_semF Try.func19 (by kernel_rfl) (by kernel_rfl) (sem_canterref01_MulDiv a b c R) h


/-- canter/canterref01.Rate -/
def W_canterref01_Rate (bw : Int) (gain : Int) (R : Rs.T [.lf (.int .u64)] → WP) : WP :=
  call Try.prog N_canterref01_MulDiv [.lf (.int .u64 bw), .lf (.int .u64 gain), .lf (.int .u64 (256:Int))] [.lf (.int .u64)] fun (r1 : Int) =>
  R r1
theorem sem_canterref01_Rate (bw : Int) (gain : Int) (R : Rs.T [.lf (.int .u64)] → WP) : Same (semF Try.prog Try.f21 (.s .o (.s .o .o)) [.lf (.int .u64 bw), .lf (.int .u64 gain)] [.lf (.int .u64)] R) (fun w => W_canterref01_Rate bw gain R w) := ⟨by kernel_rfl⟩
theorem call_canterref01_Rate (bw : Int) (gain : Int) (R : Rs.T [.lf (.int .u64)] → WP) (w : World) (h : W_canterref01_Rate bw gain R w) :
    CallX Try.prog N_canterref01_Rate ([.lf (.int .u64 bw), .lf (.int .u64 gain)].map V1.enc) w fun v w' => ∃ x, v = (retTV (Rs.mk [.lf (.int .u64)] x)).enc ∧ R x w' :=
  callX_of_semF Try.func21 (by kernel_rfl) (by kernel_rfl) (sem_canterref01_Rate bw gain R) h


/-- canter/canterref01.Sub -/
def W_canterref01_Sub (a : Int) (b : Int) (R : Rs.T [.lf (.int .u64)] → WP) : WP :=
  ite' (decide (a < b)) (
  R (0:Int)) <|
  R (IntKind.u64.wrap (a - b))
theorem sem_canterref01_Sub (a : Int) (b : Int) (R : Rs.T [.lf (.int .u64)] → WP) : Same (semF Try.prog Try.f53 (.s .o (.s (.s .o (.s (.s .o .o) .o)) (.s .o .o))) [.lf (.int .u64 a), .lf (.int .u64 b)] [.lf (.int .u64)] R) (fun w => W_canterref01_Sub a b R w) := ⟨by kernel_rfl⟩
theorem call_canterref01_Sub (a : Int) (b : Int) (R : Rs.T [.lf (.int .u64)] → WP) (w : World) (h : W_canterref01_Sub a b R w) :
    CallX Try.prog N_canterref01_Sub ([.lf (.int .u64 a), .lf (.int .u64 b)].map V1.enc) w fun v w' => ∃ x, v = (retTV (Rs.mk [.lf (.int .u64)] x)).enc ∧ R x w' :=
  callX_of_semF Try.func53 (by kernel_rfl) (by kernel_rfl) (sem_canterref01_Sub a b R) h


/-- canter/canterref01.Wide -/
def W_canterref01_Wide (a : Int) (b : Int) (R : Rs.T [.lf (.int .u64), .lf (.int .u64)] → WP) : WP :=
  req (0 ≤ (32:Int)) <|
  req (0 ≤ (32:Int)) <|
  req (0 ≤ (32:Int)) <|
  req (0 ≤ (32:Int)) <|
  req (0 ≤ (32:Int)) <|
  req (0 ≤ (32:Int)) <|
  req (0 ≤ (32:Int)) <|
  R ((IntKind.u64.wrap ((IntKind.u64.wrap ((IntKind.u64.wrap ((IntKind.u64.wrap ((a.fdiv (2 ^ min (32:Int).toNat IntKind.u64.bits)) * (b.fdiv (2 ^ min (32:Int).toNat IntKind.u64.bits)))) + ((IntKind.u64.wrap ((a.fdiv (2 ^ min (32:Int).toNat IntKind.u64.bits)) * (IntKind.u64.wrap (BitVec.ofInt IntKind.u64.bits b &&& BitVec.ofInt IntKind.u64.bits (4294967295:Int)).toNat))).fdiv (2 ^ min (32:Int).toNat IntKind.u64.bits)))) + ((IntKind.u64.wrap ((IntKind.u64.wrap (BitVec.ofInt IntKind.u64.bits a &&& BitVec.ofInt IntKind.u64.bits (4294967295:Int)).toNat) * (b.fdiv (2 ^ min (32:Int).toNat IntKind.u64.bits)))).fdiv (2 ^ min (32:Int).toNat IntKind.u64.bits)))) + ((IntKind.u64.wrap ((IntKind.u64.wrap (((IntKind.u64.wrap ((IntKind.u64.wrap (BitVec.ofInt IntKind.u64.bits a &&& BitVec.ofInt IntKind.u64.bits (4294967295:Int)).toNat) * (IntKind.u64.wrap (BitVec.ofInt IntKind.u64.bits b &&& BitVec.ofInt IntKind.u64.bits (4294967295:Int)).toNat))).fdiv (2 ^ min (32:Int).toNat IntKind.u64.bits)) + (IntKind.u64.wrap (BitVec.ofInt IntKind.u64.bits (IntKind.u64.wrap ((a.fdiv (2 ^ min (32:Int).toNat IntKind.u64.bits)) * (IntKind.u64.wrap (BitVec.ofInt IntKind.u64.bits b &&& BitVec.ofInt IntKind.u64.bits (4294967295:Int)).toNat))) &&& BitVec.ofInt IntKind.u64.bits (4294967295:Int)).toNat))) + (IntKind.u64.wrap (BitVec.ofInt IntKind.u64.bits (IntKind.u64.wrap ((IntKind.u64.wrap (BitVec.ofInt IntKind.u64.bits a &&& BitVec.ofInt IntKind.u64.bits (4294967295:Int)).toNat) * (b.fdiv (2 ^ min (32:Int).toNat IntKind.u64.bits)))) &&& BitVec.ofInt IntKind.u64.bits (4294967295:Int)).toNat))).fdiv (2 ^ min (32:Int).toNat IntKind.u64.bits)))), (IntKind.u64.wrap (BitVec.ofInt IntKind.u64.bits (IntKind.u64.wrap ((IntKind.u64.wrap ((IntKind.u64.wrap (((IntKind.u64.wrap ((IntKind.u64.wrap (BitVec.ofInt IntKind.u64.bits a &&& BitVec.ofInt IntKind.u64.bits (4294967295:Int)).toNat) * (IntKind.u64.wrap (BitVec.ofInt IntKind.u64.bits b &&& BitVec.ofInt IntKind.u64.bits (4294967295:Int)).toNat))).fdiv (2 ^ min (32:Int).toNat IntKind.u64.bits)) + (IntKind.u64.wrap (BitVec.ofInt IntKind.u64.bits (IntKind.u64.wrap ((a.fdiv (2 ^ min (32:Int).toNat IntKind.u64.bits)) * (IntKind.u64.wrap (BitVec.ofInt IntKind.u64.bits b &&& BitVec.ofInt IntKind.u64.bits (4294967295:Int)).toNat))) &&& BitVec.ofInt IntKind.u64.bits (4294967295:Int)).toNat))) + (IntKind.u64.wrap (BitVec.ofInt IntKind.u64.bits (IntKind.u64.wrap ((IntKind.u64.wrap (BitVec.ofInt IntKind.u64.bits a &&& BitVec.ofInt IntKind.u64.bits (4294967295:Int)).toNat) * (b.fdiv (2 ^ min (32:Int).toNat IntKind.u64.bits)))) &&& BitVec.ofInt IntKind.u64.bits (4294967295:Int)).toNat))) * 2 ^ min (32:Int).toNat IntKind.u64.bits)) ||| BitVec.ofInt IntKind.u64.bits (IntKind.u64.wrap (BitVec.ofInt IntKind.u64.bits (IntKind.u64.wrap ((IntKind.u64.wrap (BitVec.ofInt IntKind.u64.bits a &&& BitVec.ofInt IntKind.u64.bits (4294967295:Int)).toNat) * (IntKind.u64.wrap (BitVec.ofInt IntKind.u64.bits b &&& BitVec.ofInt IntKind.u64.bits (4294967295:Int)).toNat))) &&& BitVec.ofInt IntKind.u64.bits (4294967295:Int)).toNat)).toNat))
theorem sem_canterref01_Wide (a : Int) (b : Int) (R : Rs.T [.lf (.int .u64), .lf (.int .u64)] → WP) : Same (semF Try.prog Try.f59 (.s .o (.s .o (.s .o (.s .o (.s .o (.s .o .o)))))) [.lf (.int .u64 a), .lf (.int .u64 b)] [.lf (.int .u64), .lf (.int .u64)] R) (fun w => W_canterref01_Wide a b R w) := ⟨by kernel_rfl⟩
theorem call_canterref01_Wide (a : Int) (b : Int) (R : Rs.T [.lf (.int .u64), .lf (.int .u64)] → WP) (w : World) (h : W_canterref01_Wide a b R w) :
    CallX Try.prog N_canterref01_Wide ([.lf (.int .u64 a), .lf (.int .u64 b)].map V1.enc) w fun v w' => ∃ x, v = (retTV (Rs.mk [.lf (.int .u64), .lf (.int .u64)] x)).enc ∧ R x w' :=
  callX_of_semF Try.func59 (by kernel_rfl) (by kernel_rfl) (sem_canterref01_Wide a b R) h


/-- canter/canterref01.Window -/
def W_canterref01_Window (bw : Int) (rtt : Int) (gain : Int) (tso : Int) (mss : Int) (R : Rs.T [.lf (.int .u64)] → WP) : WP :=
  ite' (rtt == (0:Int)) (
  call Try.prog N_canterref01_Mul [.lf (.int .u64 (10:Int)), .lf (.int .u64 mss)] [.lf (.int .u64)] fun (r1 : Int) =>
  R r1) <|
  call Try.prog N_canterref01_Bdp [.lf (.int .u64 bw), .lf (.int .u64 rtt), .lf (.int .u64 gain)] [.lf (.int .u64)] fun (r2 : Int) =>
  call Try.prog N_canterref01_Mul [.lf (.int .u64 (3:Int)), .lf (.int .u64 tso)] [.lf (.int .u64)] fun (r3 : Int) =>
  call Try.prog N_canterref01_Add [.lf (.int .u64 r2), .lf (.int .u64 r3)] [.lf (.int .u64)] fun (r4 : Int) =>
  call Try.prog N_canterref01_Mul [.lf (.int .u64 (4:Int)), .lf (.int .u64 mss)] [.lf (.int .u64)] fun (r5 : Int) =>
  R (if r5 > r4 then r5 else r4)
theorem sem_canterref01_Window (bw : Int) (rtt : Int) (gain : Int) (tso : Int) (mss : Int) (R : Rs.T [.lf (.int .u64)] → WP) : Same (semF Try.prog Try.f20 (.s .o (.s (.s .o (.s (.s .o .o) .o)) (.s .o .o))) [.lf (.int .u64 bw), .lf (.int .u64 rtt), .lf (.int .u64 gain), .lf (.int .u64 tso), .lf (.int .u64 mss)] [.lf (.int .u64)] R) (fun w => W_canterref01_Window bw rtt gain tso mss R w) := ⟨by kernel_rfl⟩
theorem call_canterref01_Window (bw : Int) (rtt : Int) (gain : Int) (tso : Int) (mss : Int) (R : Rs.T [.lf (.int .u64)] → WP) (w : World) (h : W_canterref01_Window bw rtt gain tso mss R w) :
    CallX Try.prog N_canterref01_Window ([.lf (.int .u64 bw), .lf (.int .u64 rtt), .lf (.int .u64 gain), .lf (.int .u64 tso), .lf (.int .u64 mss)].map V1.enc) w fun v w' => ∃ x, v = (retTV (Rs.mk [.lf (.int .u64)] x)).enc ∧ R x w' :=
  callX_of_semF Try.func20 (by kernel_rfl) (by kernel_rfl) (sem_canterref01_Window bw rtt gain tso mss R) h


/-- (*canter/canterref08.Cycle).Gain -/
def W_canterref08_Cycle_Gain (c : Option Pt) (R : Rs.T [.lf (.int .u64)] → WP) : WP :=
  deref c fun q1 =>
  ld [.int .i64] q1 fun (x2 : Int) =>
  ite' (x2 == (0:Int)) (
  R (320:Int)) <|
  ite' (x2 == (1:Int)) (
  R (192:Int)) <|
  R (256:Int)
theorem sem_canterref08_Cycle_Gain (c : Option Pt) (R : Rs.T [.lf (.int .u64)] → WP) : Same (semF Try.prog Try.f93 (.s .o (.s (.s .o (.b (.s .o (.s (.s .o .o) (.s .o (.s (.s .o .o) .o)))))) (.s .o .o))) [.lf (.ptr c)] [.lf (.int .u64)] R) (fun w => W_canterref08_Cycle_Gain c R w) := ⟨by kernel_rfl⟩
theorem call_canterref08_Cycle_Gain (c : Option Pt) (R : Rs.T [.lf (.int .u64)] → WP) (w : World) (h : W_canterref08_Cycle_Gain c R w) :
    CallX Try.prog N_canterref08_Cycle_Gain ([.lf (.ptr c)].map V1.enc) w fun v w' => ∃ x, v = (retTV (Rs.mk [.lf (.int .u64)] x)).enc ∧ R x w' :=
  callX_of_semF Try.func93 (by kernel_rfl) (by kernel_rfl) (sem_canterref08_Cycle_Gain c R) h


/-- (*canter/canterref08.Cycle).Start -/
def W_canterref08_Cycle_Start (c : Option Pt) (now : Int) (phase : Int) (R : Rs.T [] → WP) : WP :=
  deref c fun q1 =>
  st q1 [.int .i64 (phase.tmod (8:Int))] <|
  deref c fun q2 =>
  st ⟨q2.b, q2.o + 1⟩ [.int .u64 now] <|
  deref c fun q3 =>
  ld [.int .i64] q3 fun (x4 : Int) =>
  ite' (decide (x4 < (0:Int))) (
  deref c fun q5 =>
  ld [.int .i64] q5 fun (x6 : Int) =>
  deref c fun q7 =>
  st q7 [.int .i64 (IntKind.i64.wrap (x6 + (8:Int)))] <|
  R ()) <|
  R ()
theorem sem_canterref08_Cycle_Start (c : Option Pt) (now : Int) (phase : Int) (R : Rs.T [] → WP) : Same (semF Try.prog Try.f91 (.s .o (.s .o (.s .o .o))) [.lf (.ptr c), .lf (.int .u64 now), .lf (.int .i64 phase)] [] R) (fun w => W_canterref08_Cycle_Start c now phase R w) := ⟨by kernel_rfl⟩
theorem call_canterref08_Cycle_Start (c : Option Pt) (now : Int) (phase : Int) (R : Rs.T [] → WP) (w : World) (h : W_canterref08_Cycle_Start c now phase R w) :
    CallX Try.prog N_canterref08_Cycle_Start ([.lf (.ptr c), .lf (.int .u64 now), .lf (.int .i64 phase)].map V1.enc) w fun v w' => ∃ x, v = (retTV (Rs.mk [] x)).enc ∧ R x w' :=
  callX_of_semF Try.func91 (by kernel_rfl) (by kernel_rfl) (sem_canterref08_Cycle_Start c now phase R) h


/-- (*canter/canterref08.Cycle).Update -/
def W_canterref08_Cycle_Update (c : Option Pt) (now : Int) (rtt : Int) (lost : Int) (flight : Int) (up : Int) (one : Int) (R : Rs.T [.lf .bool] → WP) : WP :=
  deref c fun q1 =>
  ld [.int .u64] ⟨q1.b, q1.o + 1⟩ fun (x2 : Int) =>
  call Try.prog N_canterref01_Sub [.lf (.int .u64 now), .lf (.int .u64 x2)] [.lf (.int .u64)] fun (r3 : Int) =>
  join [.bool] (fun J4 =>
  deref c fun q6 =>
  ld [.int .i64] q6 fun (x7 : Int) =>
  ite' (x7 == (0:Int)) (
  J4 ((decide (r3 > rtt)) && ((decide (lost > (0:Int))) || (decide (flight ≥ up))))) <|
  ite' (x7 == (1:Int)) (
  J4 ((decide (r3 > rtt)) || (decide (flight ≤ one)))) <|
  J4 (decide (r3 > rtt))) fun (y5 : Bool) =>
  ite' y5 (
  deref c fun q8 =>
  ld [.int .i64] q8 fun (x9 : Int) =>
  call Try.prog N_canterref08_Cycle_Start [.lf (.ptr c), .lf (.int .u64 now), .lf (.int .i64 (IntKind.i64.wrap (x9 + (1:Int))))] [] fun (r10 : Unit) =>
  R y5) <|
  R y5
theorem sem_canterref08_Cycle_Update (c : Option Pt) (now : Int) (rtt : Int) (lost : Int) (flight : Int) (up : Int) (one : Int) (R : Rs.T [.lf .bool] → WP) : Same (semF Try.prog Try.f89 (.s .o (.s .o (.j [(15, .lf .bool)] (.s .o (.b (.s .o (.s .o (.s .o (.s .o .o)))))) (.s (.s .o (.s .o .o)) (.s .o .o))))) [.lf (.ptr c), .lf (.int .u64 now), .lf (.int .u64 rtt), .lf (.int .u64 lost), .lf (.int .u64 flight), .lf (.int .u64 up), .lf (.int .u64 one)] [.lf .bool] R) (fun w => W_canterref08_Cycle_Update c now rtt lost flight up one R w) := ⟨by kernel_rfl⟩
theorem call_canterref08_Cycle_Update (c : Option Pt) (now : Int) (rtt : Int) (lost : Int) (flight : Int) (up : Int) (one : Int) (R : Rs.T [.lf .bool] → WP) (w : World) (h : W_canterref08_Cycle_Update c now rtt lost flight up one R w) :
    CallX Try.prog N_canterref08_Cycle_Update ([.lf (.ptr c), .lf (.int .u64 now), .lf (.int .u64 rtt), .lf (.int .u64 lost), .lf (.int .u64 flight), .lf (.int .u64 up), .lf (.int .u64 one)].map V1.enc) w fun v w' => ∃ x, v = (retTV (Rs.mk [.lf .bool] x)).enc ∧ R x w' :=
  callX_of_semF Try.func89 (by kernel_rfl) (by kernel_rfl) (sem_canterref08_Cycle_Update c now rtt lost flight up one R) h


/-- (*canter/canterref08.Model).State -/
def W_canterref08_Model_State (m : Option Pt) (R : Rs.T [.agg K_i2u6b2] → WP) : WP :=
  new [.int .i64 (0:Int), .int .i64 (0:Int), .int .u64 (0:Int), .int .u64 (0:Int), .int .u64 (0:Int), .int .u64 (0:Int), .int .u64 (0:Int), .int .u64 (0:Int), .bool false, .bool false] fun n1 =>
  drw <|
  deref m fun q2 =>
  deref m fun q3 =>
  deref m fun q4 =>
  deref m fun q5 =>
  deref m fun q6 =>
  deref m fun q7 =>
  deref m fun q8 =>
  deref m fun q9 =>
  deref m fun q10 =>
  ld [.int .i64] ⟨q2.b, q2.o + 23⟩ fun (x11 : Int) =>
  ld [.int .u64] ⟨q3.b, q3.o + 24⟩ fun (x12 : Int) =>
  ld [.int .u64] ⟨q4.b, q4.o + 25⟩ fun (x13 : Int) =>
  ld [.int .u64] ⟨q6.b, q6.o + 26⟩ fun (x14 : Int) =>
  ld [.int .u64] ⟨q5.b, q5.o + 9⟩ fun (x15 : Int) =>
  ld [.int .u64] ⟨q7.b, q7.o + 2⟩ fun (x16 : Int) =>
  ld [.int .i64] ⟨q8.b, q8.o + 7⟩ fun (x17 : Int) =>
  ld [.bool] ⟨q9.b, q9.o + 6⟩ fun (x18 : Bool) =>
  ld [.bool] ⟨q10.b, q10.o + 15⟩ fun (x19 : Bool) =>
  call Try.prog N_canterref08_Model_bw [.lf (.ptr m)] [.lf (.int .u64)] fun (r20 : Int) =>
  chk ⟨q10.b, q10.o + 15⟩ (Ks.mk [.bool] x19) <|
  chk ⟨q9.b, q9.o + 6⟩ (Ks.mk [.bool] x18) <|
  chk ⟨q8.b, q8.o + 7⟩ (Ks.mk [.int .i64] x17) <|
  chk ⟨q7.b, q7.o + 2⟩ (Ks.mk [.int .u64] x16) <|
  chk ⟨q5.b, q5.o + 9⟩ (Ks.mk [.int .u64] x15) <|
  chk ⟨q6.b, q6.o + 26⟩ (Ks.mk [.int .u64] x14) <|
  chk ⟨q4.b, q4.o + 25⟩ (Ks.mk [.int .u64] x13) <|
  chk ⟨q3.b, q3.o + 24⟩ (Ks.mk [.int .u64] x12) <|
  chk ⟨q2.b, q2.o + 23⟩ (Ks.mk [.int .i64] x11) <|
  st ⟨n1, 0⟩ [.int .i64 x11, .int .i64 x17, .int .u64 x12, .int .u64 x13, .int .u64 r20, .int .u64 x15, .int .u64 x14, .int .u64 x16, .bool x18, .bool x19] <|
  ld K_i2u6b2 ⟨n1, 0⟩ fun (x21 : T_i2u6b2) =>
  R x21
theorem sem_canterref08_Model_State (m : Option Pt) (R : Rs.T [.agg K_i2u6b2] → WP) : Same (semF Try.prog Try.f15 (.s .o (.s (.d (.f 0 [0] (.f 4 [0] (.f 8 [0] (.f 12 [0] (.f 14 [0] (.f 19 [0] (.f 23 [0] (.f 28 [0] (.f 33 [0] (.f 38 [0] (.f 1 [3] (.f 5 [7] (.f 9 [11] (.f 15 [17] (.f 20 [22] (.f 24 [26] (.f 29 [31] (.f 34 [36] (.f 39 [41] (.f 2 [4] (.f 6 [8] (.f 10 [12] (.f 16 [18] (.f 21 [23] (.f 25 [27] (.f 30 [32] (.f 35 [37] (.f 40 [42] (.f 3 [5] (.f 7 [9] (.f 11 [13] (.f 17 [19] (.f 22 [24] (.f 26 [28] (.f 31 [33] (.f 36 [38] (.f 41 [43] (.f 18 [20] (.f 27 [29] (.f 32 [34] (.f 37 [39] (.f 42 [44] (.w 13 [15] (.f 43 [6, 10, 14, 16, 21, 25, 30, 35, 40, 45] (.w 44 [2, 46] .fin)))))))))))))))))))))))))))))))))))))))))))))) .o)) [.lf (.ptr m)] [.agg K_i2u6b2] R) (fun w => W_canterref08_Model_State m R w) := ⟨by kernel_rfl⟩
theorem call_canterref08_Model_State (m : Option Pt) (R : Rs.T [.agg K_i2u6b2] → WP) (w : World) (h : W_canterref08_Model_State m R w) :
    CallX Try.prog N_canterref08_Model_State ([.lf (.ptr m)].map V1.enc) w fun v w' => ∃ x, v = (retTV (Rs.mk [.agg K_i2u6b2] x)).enc ∧ R x w' :=
  callX_of_semF Try.func15 (by kernel_rfl) (by kernel_rfl) (sem_canterref08_Model_State m R) h


/-- (*canter/canterref08.Model).Update -/
def W_canterref08_Model_Update (d : Option Pt) (o : T_u8b) (a : Int) (R : Rs.T [.agg K_i2u6b2] → WP) : WP :=
  new (Ks.mk K_u8b o) fun n1 =>
  new [.int .i64 (0:Int), .int .i64 (0:Int), .int .u64 (0:Int), .int .u64 (0:Int), .int .u64 (0:Int), .int .u64 (0:Int), .int .u64 (0:Int), .int .u64 (0:Int), .bool false, .bool false] fun n2 =>
  drw <|
  ld K_u8b ⟨n1, 0⟩ fun (x3 : T_u8b) =>
  deref d fun q4 =>
  call Try.prog N_canterref08_Rounds_Update [.lf (.ptr (some ⟨q4.b, q4.o + 2⟩)), .agg (Ks.mk K_u8b x3)] [.lf .bool] fun (r5 : Bool) =>
  drw <|
  ld K_u8b ⟨n1, 0⟩ fun (x6 : T_u8b) =>
  deref d fun q7 =>
  call Try.prog N_canterref08_Policer_Update [.lf (.ptr (some ⟨q7.b, q7.o + 15⟩)), .lf (.bool r5), .agg (Ks.mk K_u8b x6)] [] fun (r8 : Unit) =>
  join [] (fun J9 =>
  join [.bool] (fun J11 =>
  ld [.int .u64] ⟨n1, 5⟩ fun (x13 : Int) =>
  ite' (decide (x13 > (0:Int))) (
  ld [.int .u64] ⟨n1, 3⟩ fun (x14 : Int) =>
  J11 (decide (x14 > (0:Int)))) <|
  J11 false) fun (y12 : Bool) =>
  ite' y12 (
  drw <|
  ld [.int .u64] ⟨n1, 1⟩ fun (x15 : Int) =>
  ld [.int .u64] ⟨n1, 2⟩ fun (x16 : Int) =>
  ld [.int .u64] ⟨n1, 3⟩ fun (x17 : Int) =>
  call Try.prog N_canterref01_Sub [.lf (.int .u64 x15), .lf (.int .u64 x16)] [.lf (.int .u64)] fun (r18 : Int) =>
  chk ⟨n1, 3⟩ (Ks.mk [.int .u64] x17) <|
  call Try.prog N_canterref01_MulDiv [.lf (.int .u64 r18), .lf (.int .u64 (1000000000:Int)), .lf (.int .u64 x17)] [.lf (.int .u64)] fun (r19 : Int) =>
  join [.bool] (fun J20 =>
  ld [.bool] ⟨n1, 8⟩ fun (x22 : Bool) =>
  ite' (!x22) (
  J20 true) <|
  deref d fun q23 =>
  ld [.ptr] ⟨q23.b, q23.o + 1⟩ fun (x24 : Option Pt) =>
  deref x24 fun q25 =>
  req (0 ≤ (0:Int) ∧ (0:Int) < 3) <|
  ld [.int .u64] ⟨q25.b, q25.o + 4 + (0:Int).toNat * 1⟩ fun (x26 : Int) =>
  J20 (decide (r19 ≥ x26))) fun (y21 : Bool) =>
  ite' y21 (
  drw <|
  deref d fun q27 =>
  deref d fun q28 =>
  ld [.ptr] ⟨q27.b, q27.o + 1⟩ fun (x29 : Option Pt) =>
  ld [.int .u64] ⟨q28.b, q28.o + 2⟩ fun (x30 : Int) =>
  call Try.prog N_canterref08_Win_Update [.lf (.ptr x29), .lf (.int .u64 x30), .lf (.int .u64 r19)] [.lf (.int .u64)] fun (r31 : Int) =>
  J9 ()) <|
  J9 ()) <|
  J9 ()) fun (y10 : Unit) =>
  ld K_u8b ⟨n1, 0⟩ fun (x32 : T_u8b) =>
  call Try.prog N_canterref08_Model_modes [.lf (.ptr d), .agg (Ks.mk K_u8b x32), .lf (.bool r5)] [] fun (r33 : Unit) =>
  call Try.prog N_canterref08_Model_gains [.lf (.ptr d)] [.lf (.int .u64), .lf (.int .u64)] fun (r34 : Int × Int) =>
  deref d fun q35 =>
  st ⟨q35.b, q35.o + 26⟩ [.int .u64 r34.1] <|
  join [] (fun J36 =>
  call Try.prog N_canterref08_Model_bw [.lf (.ptr d)] [.lf (.int .u64)] fun (r38 : Int) =>
  ite' (decide (r38 > (0:Int))) (
  call Try.prog N_canterref08_Model_bw [.lf (.ptr d)] [.lf (.int .u64)] fun (r39 : Int) =>
  call Try.prog N_canterref01_Rate [.lf (.int .u64 r39), .lf (.int .u64 r34.1)] [.lf (.int .u64)] fun (r40 : Int) =>
  join [.bool] (fun J41 =>
  deref d fun q43 =>
  ld [.bool] ⟨q43.b, q43.o + 6⟩ fun (x44 : Bool) =>
  ite' x44 (
  J41 true) <|
  deref d fun q45 =>
  ld [.int .u64] ⟨q45.b, q45.o + 24⟩ fun (x46 : Int) =>
  J41 (decide ((if r40 > (1:Int) then r40 else (1:Int)) > x46))) fun (y42 : Bool) =>
  ite' y42 (
  deref d fun q47 =>
  st ⟨q47.b, q47.o + 24⟩ [.int .u64 (if r40 > (1:Int) then r40 else (1:Int))] <|
  J36 ()) <|
  J36 ()) <|
  J36 ()) fun (y37 : Unit) =>
  ld K_u8b ⟨n1, 0⟩ fun (x48 : T_u8b) =>
  call Try.prog N_canterref08_Model_recover [.lf (.ptr d), .agg (Ks.mk K_u8b x48), .lf (.bool r5)] [] fun (r49 : Unit) =>
  ld K_u8b ⟨n1, 0⟩ fun (x50 : T_u8b) =>
  call Try.prog N_canterref08_Model_window [.lf (.ptr d), .agg (Ks.mk K_u8b x50), .lf (.int .u64 a), .lf (.int .u64 r34.2)] [] fun (r51 : Unit) =>
  call Try.prog N_canterref08_Model_State [.lf (.ptr d)] [.agg K_i2u6b2] fun (r52 : T_i2u6b2) =>
  st ⟨n2, 0⟩ (Ks.mk K_i2u6b2 r52) <|
  ld K_i2u6b2 ⟨n2, 0⟩ fun (x53 : T_i2u6b2) =>
  R x53
theorem sem_canterref08_Model_Update (d : Option Pt) (o : T_u8b) (a : Int) (R : Rs.T [.agg K_i2u6b2] → WP) : Same (semF Try.prog Try.f18 (.s .o (.s (.d (.f 0 [0] (.f 3 [4] (.f 1 [12] (.f 2 [13] (.w 4 [14, 15] (.w 5 [16] .fin))))))) (.s (.d (.f 0 [0] (.f 3 [7] (.f 4 [4] (.f 1 [17] (.f 2 [18] (.w 5 [19, 20, 21] .fin))))))) (.j [] (.j [(30, .lf .bool)] .o (.s (.s (.d (.f 0 [4] (.f 2 [4] (.f 5 [4] (.f 1 [31] (.f 3 [33] (.f 6 [36] (.w 4 [32, 34] (.w 7 [35, 37] (.w 8 [38] .fin)))))))))) (.j [(53, .lf .bool)] .o (.s (.d (.f 0 [0] (.f 4 [0] (.f 9 [8] (.f 1 [54] (.f 5 [58] (.f 2 [55] (.f 6 [59] (.f 3 [56] (.f 7 [60] (.f 8 [61] (.w 10 [57, 62, 63] .fin)))))))))))) .o))) .o)) (.s .o (.s .o (.s .o (.j [] (.s .o (.s (.s .o (.j [(98, .lf .bool)] .o (.s .o .o))) .o)) (.s .o (.s .o (.s .o .o))))))))))) [.lf (.ptr d), .agg (Ks.mk K_u8b o), .lf (.int .u64 a)] [.agg K_i2u6b2] R) (fun w => W_canterref08_Model_Update d o a R w) := ⟨by kernel_rfl⟩
theorem call_canterref08_Model_Update (d : Option Pt) (o : T_u8b) (a : Int) (R : Rs.T [.agg K_i2u6b2] → WP) (w : World) (h : W_canterref08_Model_Update d o a R w) :
    CallX Try.prog N_canterref08_Model_Update ([.lf (.ptr d), .agg (Ks.mk K_u8b o), .lf (.int .u64 a)].map V1.enc) w fun v w' => ∃ x, v = (retTV (Rs.mk [.agg K_i2u6b2] x)).enc ∧ R x w' :=
  callX_of_semF Try.func18 (by kernel_rfl) (by kernel_rfl) (sem_canterref08_Model_Update d o a R) h


/-- (*canter/canterref08.Model).bw -/
def W_canterref08_Model_bw (m : Option Pt) (R : Rs.T [.lf (.int .u64)] → WP) : WP :=
  deref m fun q1 =>
  ld [.bool] ⟨q1.b, q1.o + 15⟩ fun (x2 : Bool) =>
  ite' x2 (
  deref m fun q3 =>
  ld [.int .u64] ⟨q3.b, q3.o + 17⟩ fun (x4 : Int) =>
  R x4) <|
  deref m fun q5 =>
  ld [.ptr] ⟨q5.b, q5.o + 1⟩ fun (x6 : Option Pt) =>
  deref x6 fun q7 =>
  req (0 ≤ (0:Int) ∧ (0:Int) < 3) <|
  ld [.int .u64] ⟨q7.b, q7.o + 4 + (0:Int).toNat * 1⟩ fun (x8 : Int) =>
  R x8
theorem sem_canterref08_Model_bw (m : Option Pt) (R : Rs.T [.lf (.int .u64)] → WP) : Same (semF Try.prog Try.f38 (.s .o (.s (.s .o (.s (.s .o .o) .o)) (.s .o .o))) [.lf (.ptr m)] [.lf (.int .u64)] R) (fun w => W_canterref08_Model_bw m R w) := ⟨by kernel_rfl⟩
theorem call_canterref08_Model_bw (m : Option Pt) (R : Rs.T [.lf (.int .u64)] → WP) (w : World) (h : W_canterref08_Model_bw m R w) :
    CallX Try.prog N_canterref08_Model_bw ([.lf (.ptr m)].map V1.enc) w fun v w' => ∃ x, v = (retTV (Rs.mk [.lf (.int .u64)] x)).enc ∧ R x w' :=
  callX_of_semF Try.func38 (by kernel_rfl) (by kernel_rfl) (sem_canterref08_Model_bw m R) h


/-- (*canter/canterref08.Model).gains -/
def W_canterref08_Model_gains (m : Option Pt) (R : Rs.T [.lf (.int .u64), .lf (.int .u64)] → WP) : WP :=
  deref m fun q1 =>
  ld [.int .i64] ⟨q1.b, q1.o + 23⟩ fun (x2 : Int) =>
  ite' (x2 == (0:Int)) (
  R ((739:Int), (739:Int))) <|
  ite' (x2 == (1:Int)) (
  R ((88:Int), (739:Int))) <|
  ite' (x2 == (2:Int)) (
  deref m fun q3 =>
  ld [.bool] ⟨q3.b, q3.o + 15⟩ fun (x4 : Bool) =>
  ite' x4 (
  R ((256:Int), (512:Int))) <|
  deref m fun q5 =>
  call Try.prog N_canterref08_Cycle_Gain [.lf (.ptr (some ⟨q5.b, q5.o + 7⟩))] [.lf (.int .u64)] fun (r6 : Int) =>
  R (r6, (512:Int))) <|
  R ((256:Int), (256:Int))
theorem sem_canterref08_Model_gains (m : Option Pt) (R : Rs.T [.lf (.int .u64), .lf (.int .u64)] → WP) : Same (semF Try.prog Try.f56 (.s .o (.s (.s .o (.b (.s .o (.s (.s .o .o) (.s .o (.s (.s .o .o) (.s .o (.s (.s (.s .o (.s (.s .o .o) .o)) (.s .o .o)) .o)))))))) (.s .o .o))) [.lf (.ptr m)] [.lf (.int .u64), .lf (.int .u64)] R) (fun w => W_canterref08_Model_gains m R w) := ⟨by kernel_rfl⟩
theorem call_canterref08_Model_gains (m : Option Pt) (R : Rs.T [.lf (.int .u64), .lf (.int .u64)] → WP) (w : World) (h : W_canterref08_Model_gains m R w) :
    CallX Try.prog N_canterref08_Model_gains ([.lf (.ptr m)].map V1.enc) w fun v w' => ∃ x, v = (retTV (Rs.mk [.lf (.int .u64), .lf (.int .u64)] x)).enc ∧ R x w' :=
  callX_of_semF Try.func56 (by kernel_rfl) (by kernel_rfl) (sem_canterref08_Model_gains m R) h


/-- (*canter/canterref08.Model).modes -/
def W_canterref08_Model_modes (d : Option Pt) (o : T_u8b) (a : Bool) (R : Rs.T [] → WP) : WP :=
  new (Ks.mk K_u8b o) fun n1 =>
  deref d fun q2 =>
  ld [.int .u64] ⟨q2.b, q2.o + 9⟩ fun (x3 : Int) =>
  join [] (fun J4 =>
  join [.bool] (fun J6 =>
  deref d fun q8 =>
  ld [.int .i64] ⟨q8.b, q8.o + 23⟩ fun (x9 : Int) =>
  ite' (x9 == (2:Int)) (
  deref d fun q10 =>
  ld [.bool] ⟨q10.b, q10.o + 15⟩ fun (x11 : Bool) =>
  J6 (!x11)) <|
  J6 false) fun (y7 : Bool) =>
  ite' y7 (
  drw <|
  deref d fun q12 =>
  ld [.int .u64] ⟨n1, 0⟩ fun (x13 : Int) =>
  ld [.int .u64] ⟨n1, 6⟩ fun (x14 : Int) =>
  ld [.int .u64] ⟨n1, 7⟩ fun (x15 : Int) =>
  call Try.prog N_canterref08_Model_bw [.lf (.ptr d)] [.lf (.int .u64)] fun (r16 : Int) =>
  chk ⟨n1, 7⟩ (Ks.mk [.int .u64] x15) <|
  chk ⟨n1, 6⟩ (Ks.mk [.int .u64] x14) <|
  chk ⟨n1, 0⟩ (Ks.mk [.int .u64] x13) <|
  call Try.prog N_canterref01_Bdp [.lf (.int .u64 r16), .lf (.int .u64 x3), .lf (.int .u64 (320:Int))] [.lf (.int .u64)] fun (r17 : Int) =>
  chk ⟨n1, 7⟩ (Ks.mk [.int .u64] x15) <|
  chk ⟨n1, 6⟩ (Ks.mk [.int .u64] x14) <|
  chk ⟨n1, 0⟩ (Ks.mk [.int .u64] x13) <|
  call Try.prog N_canterref08_Model_bw [.lf (.ptr d)] [.lf (.int .u64)] fun (r18 : Int) =>
  chk ⟨n1, 7⟩ (Ks.mk [.int .u64] x15) <|
  chk ⟨n1, 6⟩ (Ks.mk [.int .u64] x14) <|
  chk ⟨n1, 0⟩ (Ks.mk [.int .u64] x13) <|
  call Try.prog N_canterref01_Bdp [.lf (.int .u64 r18), .lf (.int .u64 x3), .lf (.int .u64 (256:Int))] [.lf (.int .u64)] fun (r19 : Int) =>
  chk ⟨n1, 7⟩ (Ks.mk [.int .u64] x15) <|
  chk ⟨n1, 6⟩ (Ks.mk [.int .u64] x14) <|
  chk ⟨n1, 0⟩ (Ks.mk [.int .u64] x13) <|
  call Try.prog N_canterref08_Cycle_Update [.lf (.ptr (some ⟨q12.b, q12.o + 7⟩)), .lf (.int .u64 x13), .lf (.int .u64 x3), .lf (.int .u64 x14), .lf (.int .u64 x15), .lf (.int .u64 r17), .lf (.int .u64 r19)] [.lf .bool] fun (r20 : Bool) =>
  J4 ()) <|
  J4 ()) fun (y5 : Unit) =>
  drw <|
  deref d fun q21 =>
  ld [.bool] ⟨n1, 8⟩ fun (x22 : Bool) =>
  deref d fun q23 =>
  ld [.ptr] ⟨q23.b, q23.o + 1⟩ fun (x24 : Option Pt) =>
  deref x24 fun q25 =>
  req (0 ≤ (0:Int) ∧ (0:Int) < 3) <|
  ld [.int .u64] ⟨q25.b, q25.o + 4 + (0:Int).toNat * 1⟩ fun (x26 : Int) =>
  call Try.prog N_canterref08_Pipe_Update [.lf (.ptr (some ⟨q21.b, q21.o + 4⟩)), .lf (.bool a), .lf (.bool x22), .lf (.int .u64 x26)] [.lf .bool] fun (r27 : Bool) =>
  join [] (fun J28 =>
  join [.bool] (fun J30 =>
  deref d fun q32 =>
  ld [.int .i64] ⟨q32.b, q32.o + 23⟩ fun (x33 : Int) =>
  ite' (x33 == (0:Int)) (
  deref d fun q34 =>
  ld [.bool] ⟨q34.b, q34.o + 6⟩ fun (x35 : Bool) =>
  J30 x35) <|
  J30 false) fun (y31 : Bool) =>
  ite' y31 (
  deref d fun q36 =>
  st ⟨q36.b, q36.o + 23⟩ [.int .i64 (1:Int)] <|
  J28 ()) <|
  J28 ()) fun (y29 : Unit) =>
  join [] (fun J37 =>
  join [.bool] (fun J39 =>
  drw <|
  deref d fun q41 =>
  ld [.int .i64] ⟨q41.b, q41.o + 23⟩ fun (x42 : Int) =>
  ite' (x42 == (1:Int)) (
  ite' (decide (x3 > (0:Int))) (
  ld [.int .u64] ⟨n1, 7⟩ fun (x43 : Int) =>
  call Try.prog N_canterref08_Model_bw [.lf (.ptr d)] [.lf (.int .u64)] fun (r44 : Int) =>
  chk ⟨n1, 7⟩ (Ks.mk [.int .u64] x43) <|
  call Try.prog N_canterref01_Bdp [.lf (.int .u64 r44), .lf (.int .u64 x3), .lf (.int .u64 (256:Int))] [.lf (.int .u64)] fun (r45 : Int) =>
  chk ⟨n1, 7⟩ (Ks.mk [.int .u64] x43) <|
  J39 (decide (x43 ≤ r45))) <|
  J39 false) <|
  J39 false) fun (y40 : Bool) =>
  ite' y40 (
  deref d fun q46 =>
  st ⟨q46.b, q46.o + 23⟩ [.int .i64 (2:Int)] <|
  drw <|
  deref d fun q47 =>
  ld [.int .u64] ⟨n1, 0⟩ fun (x48 : Int) =>
  call Try.prog N_canterref08_Cycle_Start [.lf (.ptr (some ⟨q47.b, q47.o + 7⟩)), .lf (.int .u64 x48), .lf (.int .i64 (2:Int))] [] fun (r49 : Unit) =>
  J37 ()) <|
  J37 ()) fun (y38 : Unit) =>
  drw <|
  deref d fun q50 =>
  ld [.int .u64] ⟨n1, 0⟩ fun (x51 : Int) =>
  ld [.int .u64] ⟨n1, 4⟩ fun (x52 : Int) =>
  ld [.int .u64] ⟨n1, 7⟩ fun (x53 : Int) =>
  deref d fun q54 =>
  ld [.int .u64] q54 fun (x55 : Int) =>
  call Try.prog N_canterref08_Probe_Update [.lf (.ptr (some ⟨q50.b, q50.o + 9⟩)), .lf (.int .u64 x51), .lf (.int .u64 x52), .lf (.bool a), .lf (.int .u64 x53), .lf (.int .u64 (IntKind.u64.wrap ((4:Int) * x55)))] [.lf .bool, .lf .bool] fun (r56 : Bool × Bool) =>
  join [] (fun J57 =>
  ite' r56.1 (
  drw <|
  deref d fun q59 =>
  deref d fun q60 =>
  ld [.int .u64] ⟨q59.b, q59.o + 30⟩ fun (x61 : Int) =>
  ld [.int .u64] ⟨q60.b, q60.o + 25⟩ fun (x62 : Int) =>
  deref d fun q63 =>
  st ⟨q63.b, q63.o + 30⟩ [.int .u64 (if x62 > x61 then x62 else x61)] <|
  deref d fun q64 =>
  st ⟨q64.b, q64.o + 23⟩ [.int .i64 (3:Int)] <|
  J57 ()) <|
  J57 ()) fun (y58 : Unit) =>
  ite' r56.2 (
  drw <|
  deref d fun q65 =>
  deref d fun q66 =>
  ld [.int .u64] ⟨q65.b, q65.o + 25⟩ fun (x67 : Int) =>
  ld [.int .u64] ⟨q66.b, q66.o + 30⟩ fun (x68 : Int) =>
  deref d fun q69 =>
  st ⟨q69.b, q69.o + 25⟩ [.int .u64 (if x68 > x67 then x68 else x67)] <|
  deref d fun q70 =>
  st ⟨q70.b, q70.o + 30⟩ [.int .u64 (0:Int)] <|
  deref d fun q71 =>
  st ⟨q71.b, q71.o + 23⟩ [.int .i64 (0:Int)] <|
  deref d fun q72 =>
  ld [.bool] ⟨q72.b, q72.o + 6⟩ fun (x73 : Bool) =>
  ite' x73 (
  deref d fun q74 =>
  st ⟨q74.b, q74.o + 23⟩ [.int .i64 (2:Int)] <|
  drw <|
  deref d fun q75 =>
  ld [.int .u64] ⟨n1, 0⟩ fun (x76 : Int) =>
  call Try.prog N_canterref08_Cycle_Start [.lf (.ptr (some ⟨q75.b, q75.o + 7⟩)), .lf (.int .u64 x76), .lf (.int .i64 (2:Int))] [] fun (r77 : Unit) =>
  R ()) <|
  R ()) <|
  R ()
theorem sem_canterref08_Model_modes (d : Option Pt) (o : T_u8b) (a : Bool) (R : Rs.T [] → WP) : Same (semF Try.prog Try.f55 (.s .o (.s .o (.j [] (.j [(26, .lf .bool)] .o (.s (.d (.f 0 [0] (.f 3 [4] (.f 5 [6] (.f 6 [4] (.f 8 [4] (.f 10 [0] (.f 12 [6] (.f 14 [0] (.f 16 [6] (.f 1 [27] (.f 4 [30] (.f 7 [33] (.f 9 [35] (.f 2 [28] (.w 11 [37] (.w 13 [38, 39] (.w 15 [41] (.w 17 [42, 43] (.w 18 [29, 31, 32, 34, 36, 40, 44] .fin)))))))))))))))))))) .o)) (.s (.d (.f 0 [0] (.f 3 [2] (.f 4 [4] (.f 6 [0] (.f 1 [46] (.f 5 [50] (.f 7 [52] (.f 2 [47] (.f 8 [53] (.f 9 [54] (.f 10 [55] (.f 11 [56] (.f 12 [57] (.f 13 [58] (.w 14 [48, 49, 51, 59] .fin)))))))))))))))) (.j [] (.j [(72, .lf .bool)] .o (.s .o .o)) (.j [] (.j [(93, .lf .bool)] (.d (.f 0 [0] (.f 1 [76] (.f 2 [77] (.f 3 [78] (.f 4 [79] (.f 5 [80] (.f 6 [6, 81] (.f 7 [81, 82] (.f 8 [81, 83] (.f 9 [84] (.f 10 [4, 85] (.f 12 [0, 85] (.f 14 [6, 85] (.f 11 [85, 86] (.w 13 [85, 88] (.w 15 [85, 89, 90] (.f 16 [85, 87, 91] (.f 17 [85, 92] .fin))))))))))))))))))) (.s (.s .o (.d (.f 0 [0] (.f 3 [4] (.f 1 [97] (.f 4 [100] (.f 2 [98] (.w 5 [99, 101] .fin)))))))) .o)) (.s (.d (.f 0 [0] (.f 3 [4] (.f 5 [4] (.f 7 [2] (.f 8 [4] (.f 10 [0] (.f 1 [104] (.f 4 [107] (.f 6 [109] (.f 9 [112] (.f 11 [114] (.f 2 [105] (.f 12 [115] (.f 13 [116] (.f 14 [117] (.w 15 [106, 108, 110, 111, 113, 118] (.f 16 [119] (.f 17 [103] (.f 18 [103] (.w 19 [120] (.w 20 [121] .fin)))))))))))))))))))))) (.j [] (.s .o (.s (.d (.f 0 [0] (.f 1 [0] (.f 2 [0] (.f 6 [0] (.f 3 [125] (.f 7 [129] (.f 4 [126] (.f 8 [130] (.f 5 [127] (.f 9 [131] (.f 10 [128, 132] (.f 11 [123] (.f 12 [134] (.w 13 [133, 135] (.f 14 [124] (.f 15 [136] (.w 16 [137] .fin)))))))))))))))))) .o)) (.s .o (.s (.s (.d (.f 0 [0] (.f 1 [0] (.f 2 [0] (.f 3 [0] (.f 7 [0] (.f 4 [142] (.f 8 [146] (.f 5 [143] (.f 9 [147] (.f 6 [144] (.f 10 [148] (.f 11 [145, 149] (.f 12 [139] (.f 13 [151] (.w 14 [150, 152] (.f 15 [140] (.f 16 [153] (.w 17 [154] (.f 18 [141] (.f 19 [155] (.w 20 [156] .fin)))))))))))))))))))))) (.s .o (.s (.s .o (.d (.f 0 [0] (.f 3 [4] (.f 1 [165] (.f 4 [168] (.f 2 [166] (.w 5 [167, 169] .fin)))))))) .o))) .o)))))))))) [.lf (.ptr d), .agg (Ks.mk K_u8b o), .lf (.bool a)] [] R) (fun w => W_canterref08_Model_modes d o a R w) := ⟨by kernel_rfl⟩
theorem call_canterref08_Model_modes (d : Option Pt) (o : T_u8b) (a : Bool) (R : Rs.T [] → WP) (w : World) (h : W_canterref08_Model_modes d o a R w) :
    CallX Try.prog N_canterref08_Model_modes ([.lf (.ptr d), .agg (Ks.mk K_u8b o), .lf (.bool a)].map V1.enc) w fun v w' => ∃ x, v = (retTV (Rs.mk [] x)).enc ∧ R x w' :=
  callX_of_semF Try.func55 (by kernel_rfl) (by kernel_rfl) (sem_canterref08_Model_modes d o a R) h


/-- (*canter/canterref08.Model).recover -/
def W_canterref08_Model_recover (d : Option Pt) (o : T_u8b) (a : Bool) (R : Rs.T [] → WP) : WP :=
  new (Ks.mk K_u8b o) fun n1 =>
  join [.bool] (fun J2 =>
  ld [.int .u64] ⟨n1, 6⟩ fun (x4 : Int) =>
  ite' (decide (x4 > (0:Int))) (
  deref d fun q5 =>
  ld [.bool] ⟨q5.b, q5.o + 27⟩ fun (x6 : Bool) =>
  J2 (!x6)) <|
  J2 false) fun (y3 : Bool) =>
  ite' y3 (
  deref d fun q7 =>
  st ⟨q7.b, q7.o + 27⟩ [.bool true] <|
  deref d fun q8 =>
  st ⟨q8.b, q8.o + 28⟩ [.bool true] <|
  drw <|
  ld [.int .u64] ⟨n1, 1⟩ fun (x9 : Int) =>
  ld [.int .u64] ⟨n1, 7⟩ fun (x10 : Int) =>
  deref d fun q11 =>
  deref d fun q12 =>
  ld [.int .u64] ⟨q11.b, q11.o + 30⟩ fun (x13 : Int) =>
  ld [.int .u64] ⟨q12.b, q12.o + 25⟩ fun (x14 : Int) =>
  call Try.prog N_canterref01_Add [.lf (.int .u64 x9), .lf (.int .u64 x10)] [.lf (.int .u64)] fun (r15 : Int) =>
  chk ⟨q12.b, q12.o + 25⟩ (Ks.mk [.int .u64] x14) <|
  chk ⟨q11.b, q11.o + 30⟩ (Ks.mk [.int .u64] x13) <|
  deref d fun q16 =>
  st ⟨q16.b, q16.o + 29⟩ [.int .u64 r15] <|
  deref d fun q17 =>
  st ⟨q17.b, q17.o + 30⟩ [.int .u64 (if x14 > x13 then x14 else x13)] <|
  R ()) <|
  deref d fun q18 =>
  ld [.bool] ⟨q18.b, q18.o + 27⟩ fun (x19 : Bool) =>
  ite' (!x19) (
  R ()) <|
  join [] (fun J20 =>
  ite' a (
  deref d fun q22 =>
  st ⟨q22.b, q22.o + 28⟩ [.bool false] <|
  J20 ()) <|
  J20 ()) fun (y21 : Unit) =>
  drw <|
  ld [.int .u64] ⟨n1, 1⟩ fun (x23 : Int) =>
  deref d fun q24 =>
  ld [.int .u64] ⟨q24.b, q24.o + 29⟩ fun (x25 : Int) =>
  ite' (decide (x23 ≥ x25)) (
  deref d fun q26 =>
  st ⟨q26.b, q26.o + 27⟩ [.bool false] <|
  deref d fun q27 =>
  st ⟨q27.b, q27.o + 28⟩ [.bool false] <|
  drw <|
  deref d fun q28 =>
  deref d fun q29 =>
  ld [.int .u64] ⟨q28.b, q28.o + 25⟩ fun (x30 : Int) =>
  ld [.int .u64] ⟨q29.b, q29.o + 30⟩ fun (x31 : Int) =>
  deref d fun q32 =>
  st ⟨q32.b, q32.o + 25⟩ [.int .u64 (if x31 > x30 then x31 else x30)] <|
  deref d fun q33 =>
  ld [.int .i64] ⟨q33.b, q33.o + 23⟩ fun (x34 : Int) =>
  ite' (x34 != (3:Int)) (
  deref d fun q35 =>
  st ⟨q35.b, q35.o + 30⟩ [.int .u64 (0:Int)] <|
  R ()) <|
  R ()) <|
  R ()
theorem sem_canterref08_Model_recover (d : Option Pt) (o : T_u8b) (a : Bool) (R : Rs.T [] → WP) : Same (semF Try.prog Try.f57 (.s .o (.s (.j [(15, .lf .bool)] .o (.s (.s .o (.s (.d (.f 0 [0] (.f 1 [0] (.f 2 [4] (.f 4 [4] (.f 7 [0] (.f 11 [0] (.f 3 [24] (.f 5 [26] (.f 8 [29] (.f 12 [33] (.f 9 [30] (.f 13 [34] (.f 10 [31] (.f 14 [35] (.f 15 [32, 36] (.w 6 [25, 27] (.f 16 [22] (.f 17 [38] (.w 18 [28, 39] (.f 19 [23] (.f 20 [40] (.w 21 [37, 41] .fin))))))))))))))))))))))) .o)) .o)) (.s (.s .o (.s .o .o)) (.j [] (.s .o (.s .o .o)) (.s (.d (.f 0 [4] (.f 2 [0] (.f 1 [51] (.f 3 [53] (.f 4 [54] (.f 5 [55] (.f 6 [52, 56] .fin)))))))) (.s (.s .o (.s (.d (.f 0 [0] (.f 1 [0] (.f 5 [0] (.f 2 [65] (.f 6 [69] (.f 3 [66] (.f 7 [70] (.f 4 [67] (.f 8 [71] (.f 9 [68, 72] (.f 10 [64] (.f 11 [74] (.w 12 [73, 75] .fin)))))))))))))) (.s .o (.s .o .o)))) .o)))))) [.lf (.ptr d), .agg (Ks.mk K_u8b o), .lf (.bool a)] [] R) (fun w => W_canterref08_Model_recover d o a R w) := ⟨by kernel_rfl⟩
theorem call_canterref08_Model_recover (d : Option Pt) (o : T_u8b) (a : Bool) (R : Rs.T [] → WP) (w : World) (h : W_canterref08_Model_recover d o a R w) :
    CallX Try.prog N_canterref08_Model_recover ([.lf (.ptr d), .agg (Ks.mk K_u8b o), .lf (.bool a)].map V1.enc) w fun v w' => ∃ x, v = (retTV (Rs.mk [] x)).enc ∧ R x w' :=
  callX_of_semF Try.func57 (by kernel_rfl) (by kernel_rfl) (sem_canterref08_Model_recover d o a R) h


/-- (*canter/canterref08.Model).window -/
def W_canterref08_Model_window (d : Option Pt) (o : T_u8b) (a : Int) (a' : Int) (R : Rs.T [] → WP) : WP :=
  new (Ks.mk K_u8b o) fun n1 =>
  drw <|
  deref d fun q2 =>
  ld [.int .u64] ⟨n1, 6⟩ fun (x3 : Int) =>
  deref d fun q4 =>
  ld [.int .u64] ⟨q2.b, q2.o + 25⟩ fun (x5 : Int) =>
  ld [.int .u64] q4 fun (x6 : Int) =>
  call Try.prog N_canterref01_Sub [.lf (.int .u64 x5), .lf (.int .u64 x3)] [.lf (.int .u64)] fun (r7 : Int) =>
  chk q4 (Ks.mk [.int .u64] x6) <|
  deref d fun q8 =>
  st ⟨q8.b, q8.o + 25⟩ [.int .u64 (if x6 > r7 then x6 else r7)] <|
  drw <|
  deref d fun q9 =>
  deref d fun q10 =>
  ld [.int .u64] q10 fun (x11 : Int) =>
  ld [.int .u64] ⟨q9.b, q9.o + 9⟩ fun (x12 : Int) =>
  call Try.prog N_canterref08_Model_bw [.lf (.ptr d)] [.lf (.int .u64)] fun (r13 : Int) =>
  chk ⟨q9.b, q9.o + 9⟩ (Ks.mk [.int .u64] x12) <|
  chk q10 (Ks.mk [.int .u64] x11) <|
  call Try.prog N_canterref01_Window [.lf (.int .u64 r13), .lf (.int .u64 x12), .lf (.int .u64 a'), .lf (.int .u64 a), .lf (.int .u64 x11)] [.lf (.int .u64)] fun (r14 : Int) =>
  join [] (fun J15 =>
  deref d fun q17 =>
  ld [.bool] ⟨q17.b, q17.o + 28⟩ fun (x18 : Bool) =>
  ite' x18 (
  drw <|
  deref d fun q19 =>
  ld [.int .u64] ⟨n1, 7⟩ fun (x20 : Int) =>
  ld [.int .u64] ⟨n1, 5⟩ fun (x21 : Int) =>
  ld [.int .u64] ⟨q19.b, q19.o + 25⟩ fun (x22 : Int) =>
  call Try.prog N_canterref01_Add [.lf (.int .u64 x20), .lf (.int .u64 x21)] [.lf (.int .u64)] fun (r23 : Int) =>
  chk ⟨q19.b, q19.o + 25⟩ (Ks.mk [.int .u64] x22) <|
  deref d fun q24 =>
  st ⟨q24.b, q24.o + 25⟩ [.int .u64 (if r23 > x22 then r23 else x22)] <|
  J15 ()) <|
  ld [.int .u64] ⟨n1, 5⟩ fun (x25 : Int) =>
  ite' (x25 == (0:Int)) (
  J15 ()) <|
  deref d fun q26 =>
  ld [.bool] ⟨q26.b, q26.o + 6⟩ fun (x27 : Bool) =>
  ite' x27 (
  drw <|
  deref d fun q28 =>
  ld [.int .u64] ⟨n1, 5⟩ fun (x29 : Int) =>
  ld [.int .u64] ⟨q28.b, q28.o + 25⟩ fun (x30 : Int) =>
  call Try.prog N_canterref01_Add [.lf (.int .u64 x30), .lf (.int .u64 x29)] [.lf (.int .u64)] fun (r31 : Int) =>
  deref d fun q32 =>
  st ⟨q32.b, q32.o + 25⟩ [.int .u64 (if r14 < r31 then r14 else r31)] <|
  J15 ()) <|
  join [.bool] (fun J33 =>
  drw <|
  deref d fun q35 =>
  ld [.int .u64] ⟨q35.b, q35.o + 25⟩ fun (x36 : Int) =>
  ite' (decide (x36 < r14)) (
  J33 true) <|
  ld [.int .u64] ⟨n1, 1⟩ fun (x37 : Int) =>
  deref d fun q38 =>
  ld [.int .u64] q38 fun (x39 : Int) =>
  J33 (decide (x37 < (IntKind.u64.wrap ((10:Int) * x39))))) fun (y34 : Bool) =>
  ite' y34 (
  drw <|
  deref d fun q40 =>
  ld [.int .u64] ⟨n1, 5⟩ fun (x41 : Int) =>
  ld [.int .u64] ⟨q40.b, q40.o + 25⟩ fun (x42 : Int) =>
  call Try.prog N_canterref01_Add [.lf (.int .u64 x42), .lf (.int .u64 x41)] [.lf (.int .u64)] fun (r43 : Int) =>
  deref d fun q44 =>
  st ⟨q44.b, q44.o + 25⟩ [.int .u64 r43] <|
  J15 ()) <|
  J15 ()) fun (y16 : Unit) =>
  drw <|
  deref d fun q45 =>
  deref d fun q46 =>
  ld [.int .u64] ⟨q45.b, q45.o + 25⟩ fun (x47 : Int) =>
  ld [.int .u64] q46 fun (x48 : Int) =>
  deref d fun q49 =>
  st ⟨q49.b, q49.o + 25⟩ [.int .u64 (if (IntKind.u64.wrap ((4:Int) * x48)) > x47 then (IntKind.u64.wrap ((4:Int) * x48)) else x47)] <|
  deref d fun q50 =>
  ld [.int .i64] ⟨q50.b, q50.o + 23⟩ fun (x51 : Int) =>
  ite' (x51 == (3:Int)) (
  deref d fun q52 =>
  ld [.int .u64] q52 fun (x53 : Int) =>
  deref d fun q54 =>
  st ⟨q54.b, q54.o + 25⟩ [.int .u64 (IntKind.u64.wrap ((4:Int) * x53))] <|
  R ()) <|
  R ()
theorem sem_canterref08_Model_window (d : Option Pt) (o : T_u8b) (a : Int) (a' : Int) (R : Rs.T [] → WP) : Same (semF Try.prog Try.f58 (.s .o (.s (.d (.f 0 [0] (.f 1 [0] (.f 5 [5] (.f 8 [0] (.f 2 [10] (.f 6 [14] (.f 9 [17] (.f 3 [11] (.f 10 [18] (.f 4 [12] (.f 11 [19] (.w 7 [13, 15] (.f 12 [16, 20] (.f 13 [9] (.f 14 [22] (.w 15 [21, 23] .fin))))))))))))))))) (.s (.d (.f 0 [0] (.f 2 [0] (.f 7 [3] (.f 8 [2] (.f 9 [0] (.f 3 [26] (.f 10 [33] (.f 4 [27] (.f 11 [34] (.f 5 [28] (.f 12 [35] (.f 6 [29] (.w 1 [24] (.w 13 [25, 30, 31, 32, 36] (.w 14 [37] .fin)))))))))))))))) (.j [] (.b (.s .o (.s (.d (.f 0 [0] (.f 1 [0] (.f 5 [5] (.f 7 [5] (.f 2 [44] (.f 6 [48] (.f 8 [50] (.f 3 [45] (.f 4 [46] (.w 9 [49, 51] (.f 10 [47, 52] (.f 11 [43] (.f 12 [54] (.w 13 [53, 55] .fin))))))))))))))) (.s .o (.s .o (.s .o (.s (.d (.f 0 [0] (.f 1 [0] (.f 5 [5] (.f 8 [8] (.f 2 [67] (.f 6 [71] (.f 3 [68] (.f 4 [69] (.w 7 [70, 72] (.f 9 [73, 74] (.f 10 [66] (.f 11 [76] (.w 12 [75, 77] .fin)))))))))))))) (.j [(78, .lf .bool)] (.d (.f 0 [0] (.f 4 [8] (.f 1 [79] (.f 2 [80] (.f 3 [81] (.f 5 [82, 83] (.f 6 [84] (.f 7 [5, 85] (.f 9 [0, 85] (.f 8 [85, 86] (.f 10 [85, 88] (.f 11 [85, 89] (.f 12 [85, 90] (.f 13 [85, 91] (.f 14 [85, 87, 92] (.f 15 [85, 93] (.w 16 [94] .fin)))))))))))))))))) (.s (.d (.f 0 [0] (.f 1 [0] (.f 5 [5] (.f 2 [96] (.f 6 [100] (.f 3 [97] (.f 4 [98] (.w 7 [99, 101] (.f 8 [95] (.f 9 [103] (.w 10 [102, 104] .fin)))))))))))) .o))))))))) (.s (.d (.f 0 [0] (.f 1 [0] (.f 5 [0] (.f 2 [106] (.f 6 [110] (.f 3 [107] (.f 7 [111] (.f 4 [108] (.f 8 [112] (.f 9 [113] (.f 10 [109, 114] (.f 11 [105] (.f 12 [116] (.w 13 [115, 117] .fin))))))))))))))) (.s .o (.s .o .o))))))) [.lf (.ptr d), .agg (Ks.mk K_u8b o), .lf (.int .u64 a), .lf (.int .u64 a')] [] R) (fun w => W_canterref08_Model_window d o a a' R w) := ⟨by kernel_rfl⟩
theorem call_canterref08_Model_window (d : Option Pt) (o : T_u8b) (a : Int) (a' : Int) (R : Rs.T [] → WP) (w : World) (h : W_canterref08_Model_window d o a a' R w) :
    CallX Try.prog N_canterref08_Model_window ([.lf (.ptr d), .agg (Ks.mk K_u8b o), .lf (.int .u64 a), .lf (.int .u64 a')].map V1.enc) w fun v w' => ∃ x, v = (retTV (Rs.mk [] x)).enc ∧ R x w' :=
  callX_of_semF Try.func58 (by kernel_rfl) (by kernel_rfl) (sem_canterref08_Model_window d o a a' R) h


/-- canter/canterref08.NewModel -/
def W_canterref08_NewModel (mss : Int) (R : Rs.T [.lf .ptr] → WP) : WP :=
  call Try.prog N_canterref08_NewWin [.lf (.int .u64 (10:Int)), .lf (.bool false)] [.lf .ptr] fun (r1 : Option Pt) =>
  new [.int .u64 (if (if (9000:Int) < mss then (9000:Int) else mss) > (100:Int) then (if (9000:Int) < mss then (9000:Int) else mss) else (100:Int)), .ptr r1, .int .u64 (0:Int), .int .u64 (0:Int), .int .u64 (0:Int), .int .i64 (0:Int), .bool false, .int .i64 (0:Int), .int .u64 (0:Int), .int .u64 (0:Int), .int .u64 (0:Int), .bool false, .bool false, .bool false, .int .u64 (0:Int), .bool false, .bool false, .int .u64 (0:Int), .int .i64 (0:Int), .int .u64 (0:Int), .int .u64 (0:Int), .int .u64 (0:Int), .int .u64 (0:Int), .int .i64 (0:Int), .int .u64 (0:Int), .int .u64 (0:Int), .int .u64 (739:Int), .bool false, .bool false, .int .u64 (0:Int), .int .u64 (0:Int)] fun n2 =>
  deref (some ⟨n2, 0⟩) fun q3 =>
  st ⟨q3.b, q3.o + 25⟩ [.int .u64 (IntKind.u64.wrap ((10:Int) * (if (if (9000:Int) < mss then (9000:Int) else mss) > (100:Int) then (if (9000:Int) < mss then (9000:Int) else mss) else (100:Int))))] <|
  deref (some ⟨n2, 0⟩) fun q4 =>
  ld [.int .u64] ⟨q4.b, q4.o + 25⟩ fun (x5 : Int) =>
  call Try.prog N_canterref01_Rate [.lf (.int .u64 (IntKind.u64.wrap (x5 * (1000:Int)))), .lf (.int .u64 (739:Int))] [.lf (.int .u64)] fun (r6 : Int) =>
  deref (some ⟨n2, 0⟩) fun q7 =>
  st ⟨q7.b, q7.o + 24⟩ [.int .u64 r6] <|
  R (some ⟨n2, 0⟩)
theorem sem_canterref08_NewModel (mss : Int) (R : Rs.T [.lf .ptr] → WP) : Same (semF Try.prog Try.f12 (.s .o (.s .o (.s .o (.s .o (.s .o (.s .o .o)))))) [.lf (.int .u64 mss)] [.lf .ptr] R) (fun w => W_canterref08_NewModel mss R w) := ⟨by kernel_rfl⟩
theorem call_canterref08_NewModel (mss : Int) (R : Rs.T [.lf .ptr] → WP) (w : World) (h : W_canterref08_NewModel mss R w) :
    CallX Try.prog N_canterref08_NewModel ([.lf (.int .u64 mss)].map V1.enc) w fun v w' => ∃ x, v = (retTV (Rs.mk [.lf .ptr] x)).enc ∧ R x w' :=
  callX_of_semF Try.func12 (by kernel_rfl) (by kernel_rfl) (sem_canterref08_NewModel mss R) h


/-- canter/canterref08.NewWin -/
def W_canterref08_NewWin (window : Int) (least : Bool) (R : Rs.T [.lf .ptr] → WP) : WP :=
  new [.int .u64 window, .int .u64 (0:Int), .int .u64 (0:Int), .int .u64 (0:Int), .int .u64 (0:Int), .int .u64 (0:Int), .int .u64 (0:Int), .int .u64 (0:Int), .bool least] fun n1 =>
  ite' least (
  deref (some ⟨n1, 0⟩) fun q2 =>
  st ⟨q2.b, q2.o + 4⟩ [.int .u64 (18446744073709551615:Int), .int .u64 (18446744073709551615:Int), .int .u64 (18446744073709551615:Int)] <|
  R (some ⟨n1, 0⟩)) <|
  R (some ⟨n1, 0⟩)
theorem sem_canterref08_NewWin (window : Int) (least : Bool) (R : Rs.T [.lf .ptr] → WP) : Same (semF Try.prog Try.f30 (.s .o (.s .o (.s (.s .o (.s .o .o)) (.s .o .o)))) [.lf (.int .u64 window), .lf (.bool least)] [.lf .ptr] R) (fun w => W_canterref08_NewWin window least R w) := ⟨by kernel_rfl⟩
theorem call_canterref08_NewWin (window : Int) (least : Bool) (R : Rs.T [.lf .ptr] → WP) (w : World) (h : W_canterref08_NewWin window least R w) :
    CallX Try.prog N_canterref08_NewWin ([.lf (.int .u64 window), .lf (.bool least)].map V1.enc) w fun v w' => ∃ x, v = (retTV (Rs.mk [.lf .ptr] x)).enc ∧ R x w' :=
  callX_of_semF Try.func30 (by kernel_rfl) (by kernel_rfl) (sem_canterref08_NewWin window least R) h


/-- (*canter/canterref08.Pipe).Update -/
def W_canterref08_Pipe_Update (p : Option Pt) (start : Bool) (limited : Bool) (bw : Int) (R : Rs.T [.lf .bool] → WP) : WP :=
  deref p fun q1 =>
  ld [.bool] ⟨q1.b, q1.o + 2⟩ fun (x2 : Bool) =>
  ite' ((x2 || (!start)) || limited) (
  deref p fun q3 =>
  ld [.bool] ⟨q3.b, q3.o + 2⟩ fun (x4 : Bool) =>
  R x4) <|
  deref p fun q5 =>
  ld [.int .u64] q5 fun (x6 : Int) =>
  call Try.prog N_canterref01_MulDiv [.lf (.int .u64 x6), .lf (.int .u64 (320:Int)), .lf (.int .u64 (256:Int))] [.lf (.int .u64)] fun (r7 : Int) =>
  ite' (decide (bw ≥ r7)) (
  deref p fun q8 =>
  st q8 [.int .u64 bw] <|
  deref p fun q9 =>
  st ⟨q9.b, q9.o + 1⟩ [.int .i64 (0:Int)] <|
  R false) <|
  deref p fun q10 =>
  ld [.int .i64] ⟨q10.b, q10.o + 1⟩ fun (x11 : Int) =>
  deref p fun q12 =>
  st ⟨q12.b, q12.o + 1⟩ [.int .i64 (IntKind.i64.wrap (x11 + (1:Int)))] <|
  deref p fun q13 =>
  ld [.int .i64] ⟨q13.b, q13.o + 1⟩ fun (x14 : Int) =>
  deref p fun q15 =>
  st ⟨q15.b, q15.o + 2⟩ [.bool (decide (x14 ≥ (3:Int)))] <|
  deref p fun q16 =>
  ld [.bool] ⟨q16.b, q16.o + 2⟩ fun (x17 : Bool) =>
  R x17
theorem sem_canterref08_Pipe_Update (p : Option Pt) (start : Bool) (limited : Bool) (bw : Int) (R : Rs.T [.lf .bool] → WP) : Same (semF Try.prog Try.f90 (.s .o (.s (.s .o (.s (.s .o .o) .o)) (.s (.s .o (.s (.s .o (.s .o .o)) .o)) (.s .o (.s .o (.s .o .o)))))) [.lf (.ptr p), .lf (.bool start), .lf (.bool limited), .lf (.int .u64 bw)] [.lf .bool] R) (fun w => W_canterref08_Pipe_Update p start limited bw R w) := ⟨by kernel_rfl⟩
theorem call_canterref08_Pipe_Update (p : Option Pt) (start : Bool) (limited : Bool) (bw : Int) (R : Rs.T [.lf .bool] → WP) (w : World) (h : W_canterref08_Pipe_Update p start limited bw R w) :
    CallX Try.prog N_canterref08_Pipe_Update ([.lf (.ptr p), .lf (.bool start), .lf (.bool limited), .lf (.int .u64 bw)].map V1.enc) w fun v w' => ∃ x, v = (retTV (Rs.mk [.lf .bool] x)).enc ∧ R x w' :=
  callX_of_semF Try.func90 (by kernel_rfl) (by kernel_rfl) (sem_canterref08_Pipe_Update p start limited bw R) h


/-- (*canter/canterref08.Policer).Update -/
def W_canterref08_Policer_Update (d : Option Pt) (o : Bool) (a : T_u8b) (R : Rs.T [] → WP) : WP :=
  new (Ks.mk K_u8b a) fun n1 =>
  drw <|
  deref d fun q2 =>
  ld [.int .u64] ⟨n1, 6⟩ fun (x3 : Int) =>
  ld [.int .u64] ⟨q2.b, q2.o + 4⟩ fun (x4 : Int) =>
  call Try.prog N_canterref01_Add [.lf (.int .u64 x4), .lf (.int .u64 x3)] [.lf (.int .u64)] fun (r5 : Int) =>
  deref d fun q6 =>
  st ⟨q6.b, q6.o + 4⟩ [.int .u64 r5] <|
  deref d fun q7 =>
  ld [.bool] q7 fun (x8 : Bool) =>
  ite' x8 (
  join [] (fun J9 =>
  ite' o (
  deref d fun q11 =>
  ld [.int .i64] ⟨q11.b, q11.o + 3⟩ fun (x12 : Int) =>
  deref d fun q13 =>
  st ⟨q13.b, q13.o + 3⟩ [.int .i64 (IntKind.i64.wrap (x12 + (1:Int)))] <|
  J9 ()) <|
  J9 ()) fun (y10 : Unit) =>
  deref d fun q14 =>
  ld [.int .i64] ⟨q14.b, q14.o + 3⟩ fun (x15 : Int) =>
  ite' (decide (x15 ≥ (48:Int))) (
  deref d fun q16 =>
  st q16 [.bool false] <|
  deref d fun q17 =>
  st ⟨q17.b, q17.o + 3⟩ [.int .i64 (0:Int)] <|
  call Try.prog N_canterref08_Policer_stop [.lf (.ptr d)] [] fun (r18 : Unit) =>
  R ()) <|
  R ()) <|
  deref d fun q19 =>
  ld [.bool] ⟨q19.b, q19.o + 1⟩ fun (x20 : Bool) =>
  ite' (!x20) (
  ld [.int .u64] ⟨n1, 6⟩ fun (x21 : Int) =>
  ite' (decide (x21 > (0:Int))) (
  ld K_u8b ⟨n1, 0⟩ fun (x22 : T_u8b) =>
  call Try.prog N_canterref08_Policer_begin [.lf (.ptr d), .agg (Ks.mk K_u8b x22)] [] fun (r23 : Unit) =>
  R ()) <|
  R ()) <|
  ld [.bool] ⟨n1, 8⟩ fun (x24 : Bool) =>
  ite' x24 (
  call Try.prog N_canterref08_Policer_stop [.lf (.ptr d)] [] fun (r25 : Unit) =>
  R ()) <|
  join [] (fun J26 =>
  ite' o (
  deref d fun q28 =>
  ld [.int .i64] ⟨q28.b, q28.o + 3⟩ fun (x29 : Int) =>
  deref d fun q30 =>
  st ⟨q30.b, q30.o + 3⟩ [.int .i64 (IntKind.i64.wrap (x29 + (1:Int)))] <|
  J26 ()) <|
  J26 ()) fun (y27 : Unit) =>
  deref d fun q31 =>
  ld [.int .i64] ⟨q31.b, q31.o + 3⟩ fun (x32 : Int) =>
  ite' (decide (x32 > (16:Int))) (
  call Try.prog N_canterref08_Policer_stop [.lf (.ptr d)] [] fun (r33 : Unit) =>
  R ()) <|
  join [.bool] (fun J34 =>
  deref d fun q36 =>
  ld [.int .i64] ⟨q36.b, q36.o + 3⟩ fun (x37 : Int) =>
  ite' (decide (x37 ≥ (4:Int))) (
  ld [.int .u64] ⟨n1, 6⟩ fun (x38 : Int) =>
  J34 (decide (x38 > (0:Int)))) <|
  J34 false) fun (y35 : Bool) =>
  ite' y35 (
  ld K_u8b ⟨n1, 0⟩ fun (x39 : T_u8b) =>
  call Try.prog N_canterref08_Policer_look [.lf (.ptr d), .agg (Ks.mk K_u8b x39)] [] fun (r40 : Unit) =>
  R ()) <|
  R ()
theorem sem_canterref08_Policer_Update (d : Option Pt) (o : Bool) (a : T_u8b) (R : Rs.T [] → WP) : Same (semF Try.prog Try.f52 (.s .o (.s (.d (.f 0 [0] (.f 1 [0] (.f 5 [5] (.f 2 [7] (.f 6 [11] (.f 3 [8] (.f 4 [9] (.w 7 [10, 12] (.f 8 [6] (.f 9 [14] (.w 10 [13, 15] .fin)))))))))))) (.s (.s .o (.s (.j [] (.s .o (.s .o .o)) (.s (.s .o (.s (.s .o .o) .o)) .o)) .o)) (.s (.s .o (.s (.s (.s .o (.s .o .o)) .o) .o)) (.s (.s .o (.s (.s .o .o) .o)) (.j [] (.s .o (.s .o .o)) (.b (.s .o (.s .o (.j [(72, .lf .bool)] .o (.s .o .o))))))))))) [.lf (.ptr d), .lf (.bool o), .agg (Ks.mk K_u8b a)] [] R) (fun w => W_canterref08_Policer_Update d o a R w) := ⟨by kernel_rfl⟩
theorem call_canterref08_Policer_Update (d : Option Pt) (o : Bool) (a : T_u8b) (R : Rs.T [] → WP) (w : World) (h : W_canterref08_Policer_Update d o a R w) :
    CallX Try.prog N_canterref08_Policer_Update ([.lf (.ptr d), .lf (.bool o), .agg (Ks.mk K_u8b a)].map V1.enc) w fun v w' => ∃ x, v = (retTV (Rs.mk [] x)).enc ∧ R x w' :=
  callX_of_semF Try.func52 (by kernel_rfl) (by kernel_rfl) (sem_canterref08_Policer_Update d o a R) h


/-- (*canter/canterref08.Policer).begin -/
def W_canterref08_Policer_begin (p : Option Pt) (s : T_u8b) (R : Rs.T [] → WP) : WP :=
  new (Ks.mk K_u8b s) fun n1 =>
  deref p fun q2 =>
  st ⟨q2.b, q2.o + 1⟩ [.bool true] <|
  deref p fun q3 =>
  st ⟨q3.b, q3.o + 3⟩ [.int .i64 (0:Int)] <|
  drw <|
  ld [.int .u64] ⟨n1, 0⟩ fun (x4 : Int) =>
  ld [.int .u64] ⟨n1, 1⟩ fun (x5 : Int) =>
  deref p fun q6 =>
  ld [.int .u64] ⟨q6.b, q6.o + 4⟩ fun (x7 : Int) =>
  deref p fun q8 =>
  st ⟨q8.b, q8.o + 5⟩ [.int .u64 x4] <|
  chk ⟨n1, 1⟩ (Ks.mk [.int .u64] x5) <|
  deref p fun q9 =>
  st ⟨q9.b, q9.o + 6⟩ [.int .u64 x5] <|
  deref p fun q10 =>
  st ⟨q10.b, q10.o + 7⟩ [.int .u64 x7] <|
  R ()
theorem sem_canterref08_Policer_begin (p : Option Pt) (s : T_u8b) (R : Rs.T [] → WP) : Same (semF Try.prog Try.f83 (.s .o (.s .o (.d (.f 0 [0] (.f 1 [0] (.f 2 [0] (.f 3 [3] (.f 5 [3] (.f 7 [0] (.f 4 [13] (.f 6 [15] (.f 8 [17] (.f 9 [18] (.f 10 [19] (.f 11 [10] (.f 12 [21] (.w 13 [14, 22] (.f 14 [11] (.f 15 [23] (.w 16 [16, 24] (.f 17 [12] (.f 18 [25] (.w 19 [20, 26] .fin))))))))))))))))))))))) [.lf (.ptr p), .agg (Ks.mk K_u8b s)] [] R) (fun w => W_canterref08_Policer_begin p s R w) := ⟨by kernel_rfl⟩
theorem call_canterref08_Policer_begin (p : Option Pt) (s : T_u8b) (R : Rs.T [] → WP) (w : World) (h : W_canterref08_Policer_begin p s R w) :
    CallX Try.prog N_canterref08_Policer_begin ([.lf (.ptr p), .agg (Ks.mk K_u8b s)].map V1.enc) w fun v w' => ∃ x, v = (retTV (Rs.mk [] x)).enc ∧ R x w' :=
  callX_of_semF Try.func83 (by kernel_rfl) (by kernel_rfl) (sem_canterref08_Policer_begin p s R) h


/-- (*canter/canterref08.Policer).look -/
def W_canterref08_Policer_look (d : Option Pt) (o : T_u8b) (R : Rs.T [] → WP) : WP :=
  new (Ks.mk K_u8b o) fun n1 =>
  drw <|
  ld [.int .u64] ⟨n1, 1⟩ fun (x2 : Int) =>
  deref d fun q3 =>
  deref d fun q4 =>
  deref d fun q5 =>
  ld [.int .u64] ⟨n1, 0⟩ fun (x6 : Int) =>
  deref d fun q7 =>
  ld [.int .u64] ⟨q3.b, q3.o + 6⟩ fun (x8 : Int) =>
  ld [.int .u64] ⟨q4.b, q4.o + 4⟩ fun (x9 : Int) =>
  ld [.int .u64] ⟨q5.b, q5.o + 7⟩ fun (x10 : Int) =>
  ld [.int .u64] ⟨q7.b, q7.o + 5⟩ fun (x11 : Int) =>
  call Try.prog N_canterref01_Sub [.lf (.int .u64 x2), .lf (.int .u64 x8)] [.lf (.int .u64)] fun (r12 : Int) =>
  chk ⟨q7.b, q7.o + 5⟩ (Ks.mk [.int .u64] x11) <|
  chk ⟨q5.b, q5.o + 7⟩ (Ks.mk [.int .u64] x10) <|
  chk ⟨q4.b, q4.o + 4⟩ (Ks.mk [.int .u64] x9) <|
  chk ⟨n1, 0⟩ (Ks.mk [.int .u64] x6) <|
  call Try.prog N_canterref01_Sub [.lf (.int .u64 x9), .lf (.int .u64 x10)] [.lf (.int .u64)] fun (r13 : Int) =>
  chk ⟨q7.b, q7.o + 5⟩ (Ks.mk [.int .u64] x11) <|
  chk ⟨n1, 0⟩ (Ks.mk [.int .u64] x6) <|
  call Try.prog N_canterref01_Sub [.lf (.int .u64 x6), .lf (.int .u64 x11)] [.lf (.int .u64)] fun (r14 : Int) =>
  join [] (fun J15 =>
  ite' ((r12 == (0:Int)) || (r14 == (0:Int))) (
  R ()) <|
  call Try.prog N_canterref01_MulDiv [.lf (.int .u64 r12), .lf (.int .u64 (50:Int)), .lf (.int .u64 (256:Int))] [.lf (.int .u64)] fun (r17 : Int) =>
  ite' (decide (r13 < r17)) (
  R ()) <|
  J15 ()) fun (y16 : Unit) =>
  call Try.prog N_canterref01_MulDiv [.lf (.int .u64 r12), .lf (.int .u64 (1000000000:Int)), .lf (.int .u64 r14)] [.lf (.int .u64)] fun (r18 : Int) =>
  join [.bool] (fun J19 =>
  deref d fun q21 =>
  ld [.int .u64] ⟨q21.b, q21.o + 2⟩ fun (x22 : Int) =>
  ite' (decide (x22 > (0:Int))) (
  deref d fun q23 =>
  ld [.int .u64] ⟨q23.b, q23.o + 2⟩ fun (x24 : Int) =>
  call Try.prog N_canterref08_near [.lf (.int .u64 x24), .lf (.int .u64 r18)] [.lf .bool] fun (r25 : Bool) =>
  J19 r25) <|
  J19 false) fun (y20 : Bool) =>
  ite' y20 (
  drw <|
  deref d fun q26 =>
  deref d fun q27 =>
  ld [.int .u64] ⟨q26.b, q26.o + 2⟩ fun (x28 : Int) =>
  ld [.int .u64] ⟨q27.b, q27.o + 2⟩ fun (x29 : Int) =>
  deref d fun q30 =>
  st ⟨q30.b, q30.o + 2⟩ [.int .u64 (IntKind.u64.wrap ((IntKind.u64.wrap ((IntKind.u64.wrap (x28.tdiv (2:Int))) + (IntKind.u64.wrap (r18.tdiv (2:Int))))) + (IntKind.u64.wrap ((IntKind.u64.wrap ((x29.tmod (2:Int)) + (r18.tmod (2:Int)))).tdiv (2:Int)))))] <|
  deref d fun q31 =>
  st q31 [.bool true] <|
  deref d fun q32 =>
  st ⟨q32.b, q32.o + 3⟩ [.int .i64 (0:Int)] <|
  R ()) <|
  deref d fun q33 =>
  st ⟨q33.b, q33.o + 2⟩ [.int .u64 r18] <|
  ld K_u8b ⟨n1, 0⟩ fun (x34 : T_u8b) =>
  call Try.prog N_canterref08_Policer_begin [.lf (.ptr d), .agg (Ks.mk K_u8b x34)] [] fun (r35 : Unit) =>
  R ()
theorem sem_canterref08_Policer_look (d : Option Pt) (o : T_u8b) (R : Rs.T [] → WP) : Same (semF Try.prog Try.f84 (.s .o (.s (.d (.f 0 [3] (.f 2 [0] (.f 7 [0] (.f 11 [0] (.f 16 [3] (.f 18 [0] (.f 1 [8] (.f 3 [10] (.f 8 [15] (.f 12 [19] (.f 17 [24] (.f 19 [26] (.f 4 [11] (.f 9 [16] (.f 13 [20] (.f 20 [27] (.f 5 [12] (.f 10 [17] (.f 14 [21] (.f 21 [28] (.w 6 [9, 13] (.w 15 [18, 22] (.w 22 [25, 29] (.w 23 [14] (.w 24 [23] (.w 25 [30] .fin))))))))))))))))))))))))))) (.j [] (.s .o (.s .o .o)) (.s .o (.s (.j [(58, .lf .bool)] .o (.s (.s (.d (.f 0 [0] (.f 1 [0] (.f 6 [7] (.f 9 [0] (.f 14 [7] (.f 2 [60] (.f 7 [65] (.f 10 [68] (.f 15 [73] (.f 3 [61] (.f 11 [69] (.f 4 [62] (.f 12 [70] (.f 5 [63] (.f 13 [71] (.f 8 [64, 66] (.f 16 [72, 74] (.f 17 [75] (.f 18 [67, 76] (.f 19 [59] (.f 20 [78] (.w 21 [77, 79] .fin))))))))))))))))))))))) (.s .o .o)) .o)) (.s .o .o)))))) [.lf (.ptr d), .agg (Ks.mk K_u8b o)] [] R) (fun w => W_canterref08_Policer_look d o R w) := ⟨by kernel_rfl⟩
theorem call_canterref08_Policer_look (d : Option Pt) (o : T_u8b) (R : Rs.T [] → WP) (w : World) (h : W_canterref08_Policer_look d o R w) :
    CallX Try.prog N_canterref08_Policer_look ([.lf (.ptr d), .agg (Ks.mk K_u8b o)].map V1.enc) w fun v w' => ∃ x, v = (retTV (Rs.mk [] x)).enc ∧ R x w' :=
  callX_of_semF Try.func84 (by kernel_rfl) (by kernel_rfl) (sem_canterref08_Policer_look d o R) h


/-- (*canter/canterref08.Policer).stop -/
def W_canterref08_Policer_stop (p : Option Pt) (R : Rs.T [] → WP) : WP :=
  deref p fun q1 =>
  st ⟨q1.b, q1.o + 1⟩ [.bool false] <|
  deref p fun q2 =>
  st ⟨q2.b, q2.o + 2⟩ [.int .u64 (0:Int)] <|
  R ()
theorem sem_canterref08_Policer_stop (p : Option Pt) (R : Rs.T [] → WP) : Same (semF Try.prog Try.f82 .o [.lf (.ptr p)] [] R) (fun w => W_canterref08_Policer_stop p R w) := ⟨by kernel_rfl⟩
theorem call_canterref08_Policer_stop (p : Option Pt) (R : Rs.T [] → WP) (w : World) (h : W_canterref08_Policer_stop p R w) :
    CallX Try.prog N_canterref08_Policer_stop ([.lf (.ptr p)].map V1.enc) w fun v w' => ∃ x, v = (retTV (Rs.mk [] x)).enc ∧ R x w' :=
  callX_of_semF Try.func82 (by kernel_rfl) (by kernel_rfl) (sem_canterref08_Policer_stop p R) h


/-- (*canter/canterref08.Probe).Update -/
def W_canterref08_Probe_Update (d : Option Pt) (o : Int) (a : Int) (a' : Bool) (a'' : Int) (a''' : Int) (R : Rs.T [.lf .bool, .lf .bool] → WP) : WP :=
  join [.bool] (fun J1 =>
  deref d fun q3 =>
  ld [.int .u64] q3 fun (x4 : Int) =>
  ite' (decide (x4 > (0:Int))) (
  deref d fun q5 =>
  ld [.int .u64] ⟨q5.b, q5.o + 1⟩ fun (x6 : Int) =>
  call Try.prog N_canterref01_Add [.lf (.int .u64 x6), .lf (.int .u64 (10000000000:Int))] [.lf (.int .u64)] fun (r7 : Int) =>
  J1 (decide (o > r7))) <|
  J1 false) fun (y2 : Bool) =>
  join [] (fun J8 =>
  join [.bool] (fun J10 =>
  ite' (decide (a > (0:Int))) (
  deref d fun q12 =>
  ld [.int .u64] q12 fun (x13 : Int) =>
  ite' (x13 == (0:Int)) (
  J10 true) <|
  deref d fun q14 =>
  ld [.int .u64] q14 fun (x15 : Int) =>
  J10 ((decide (a ≤ x15)) || y2)) <|
  J10 false) fun (y11 : Bool) =>
  ite' y11 (
  deref d fun q16 =>
  st q16 [.int .u64 a] <|
  deref d fun q17 =>
  st ⟨q17.b, q17.o + 1⟩ [.int .u64 o] <|
  J8 ()) <|
  J8 ()) fun (y9 : Unit) =>
  join [.bool] (fun J18 =>
  ite' y2 (
  deref d fun q20 =>
  ld [.bool] ⟨q20.b, q20.o + 2⟩ fun (x21 : Bool) =>
  J18 (!x21)) <|
  J18 false) fun (y19 : Bool) =>
  ite' y19 (
  deref d fun q22 =>
  st ⟨q22.b, q22.o + 2⟩ [.bool true] <|
  deref d fun q23 =>
  st ⟨q23.b, q23.o + 3⟩ [.bool false] <|
  deref d fun q24 =>
  st ⟨q24.b, q24.o + 4⟩ [.bool false] <|
  R (true, false)) <|
  deref d fun q25 =>
  ld [.bool] ⟨q25.b, q25.o + 2⟩ fun (x26 : Bool) =>
  ite' (!x26) (
  R (false, false)) <|
  deref d fun q27 =>
  ld [.bool] ⟨q27.b, q27.o + 3⟩ fun (x28 : Bool) =>
  ite' (!x28) (
  ite' (decide (a'' ≤ a''')) (
  call Try.prog N_canterref01_Add [.lf (.int .u64 o), .lf (.int .u64 (200000000:Int))] [.lf (.int .u64)] fun (r29 : Int) =>
  deref d fun q30 =>
  st ⟨q30.b, q30.o + 3⟩ [.bool true] <|
  deref d fun q31 =>
  st ⟨q31.b, q31.o + 4⟩ [.bool false] <|
  deref d fun q32 =>
  st ⟨q32.b, q32.o + 5⟩ [.int .u64 r29] <|
  R (false, false)) <|
  R (false, false)) <|
  deref d fun q33 =>
  ld [.bool] ⟨q33.b, q33.o + 4⟩ fun (x34 : Bool) =>
  deref d fun q35 =>
  st ⟨q35.b, q35.o + 4⟩ [.bool (x34 || a')] <|
  join [.bool] (fun J36 =>
  deref d fun q38 =>
  ld [.bool] ⟨q38.b, q38.o + 4⟩ fun (x39 : Bool) =>
  ite' x39 (
  deref d fun q40 =>
  ld [.int .u64] ⟨q40.b, q40.o + 5⟩ fun (x41 : Int) =>
  J36 (decide (o > x41))) <|
  J36 false) fun (y37 : Bool) =>
  ite' y37 (
  deref d fun q42 =>
  st ⟨q42.b, q42.o + 1⟩ [.int .u64 o] <|
  deref d fun q43 =>
  st ⟨q43.b, q43.o + 2⟩ [.bool false] <|
  deref d fun q44 =>
  st ⟨q44.b, q44.o + 3⟩ [.bool false] <|
  R (false, true)) <|
  R (false, false)
theorem sem_canterref08_Probe_Update (d : Option Pt) (o : Int) (a : Int) (a' : Bool) (a'' : Int) (a''' : Int) (R : Rs.T [.lf .bool, .lf .bool] → WP) : Same (semF Try.prog Try.f92 (.s .o (.j [(14, .lf .bool)] .o (.j [] (.j [(48, .lf .bool)] .o (.s .o .o)) (.s (.j [(64, .lf .bool)] .o (.s (.s .o (.s .o .o)) .o)) (.s (.s .o (.s (.s .o .o) .o)) (.s (.s .o (.s (.s (.s .o (.s .o .o)) (.s .o .o)) .o)) (.s .o (.s (.j [(119, .lf .bool)] .o (.s (.s .o (.s .o .o)) .o)) (.s .o .o))))))))) [.lf (.ptr d), .lf (.int .u64 o), .lf (.int .u64 a), .lf (.bool a'), .lf (.int .u64 a''), .lf (.int .u64 a''')] [.lf .bool, .lf .bool] R) (fun w => W_canterref08_Probe_Update d o a a' a'' a''' R w) := ⟨by kernel_rfl⟩
theorem call_canterref08_Probe_Update (d : Option Pt) (o : Int) (a : Int) (a' : Bool) (a'' : Int) (a''' : Int) (R : Rs.T [.lf .bool, .lf .bool] → WP) (w : World) (h : W_canterref08_Probe_Update d o a a' a'' a''' R w) :
    CallX Try.prog N_canterref08_Probe_Update ([.lf (.ptr d), .lf (.int .u64 o), .lf (.int .u64 a), .lf (.bool a'), .lf (.int .u64 a''), .lf (.int .u64 a''')].map V1.enc) w fun v w' => ∃ x, v = (retTV (Rs.mk [.lf .bool, .lf .bool] x)).enc ∧ R x w' :=
  callX_of_semF Try.func92 (by kernel_rfl) (by kernel_rfl) (sem_canterref08_Probe_Update d o a a' a'' a''' R) h


/-- (*canter/canterref08.Rounds).Update -/
def W_canterref08_Rounds_Update (r : Option Pt) (s : T_u8b) (R : Rs.T [.lf .bool] → WP) : WP :=
  new (Ks.mk K_u8b s) fun n1 =>
  join [] (fun J2 =>
  drw <|
  ld [.int .u64] ⟨n1, 5⟩ fun (x4 : Int) =>
  ite' (x4 == (0:Int)) (
  R false) <|
  ld [.int .u64] ⟨n1, 2⟩ fun (x5 : Int) =>
  deref r fun q6 =>
  ld [.int .u64] ⟨q6.b, q6.o + 1⟩ fun (x7 : Int) =>
  ite' (decide (x5 < x7)) (
  R false) <|
  J2 ()) fun (y3 : Unit) =>
  ld [.int .u64] ⟨n1, 1⟩ fun (x8 : Int) =>
  deref r fun q9 =>
  st ⟨q9.b, q9.o + 1⟩ [.int .u64 x8] <|
  deref r fun q10 =>
  ld [.int .u64] q10 fun (x11 : Int) =>
  deref r fun q12 =>
  st q12 [.int .u64 (IntKind.u64.wrap (x11 + (1:Int)))] <|
  R true
theorem sem_canterref08_Rounds_Update (r : Option Pt) (s : T_u8b) (R : Rs.T [.lf .bool] → WP) : Same (semF Try.prog Try.f51 (.s .o (.j [] (.s (.d (.f 0 [3] (.f 1 [5] (.f 2 [6] (.f 3 [7] (.f 4 [3, 8] (.f 6 [0, 8] (.f 5 [8, 9] (.f 7 [8, 11] (.f 8 [8, 12] (.f 9 [8, 13] (.f 10 [8, 10, 14] (.f 11 [8, 15] .fin))))))))))))) (.s (.s .o .o) .o)) (.s .o (.s .o (.s .o .o))))) [.lf (.ptr r), .agg (Ks.mk K_u8b s)] [.lf .bool] R) (fun w => W_canterref08_Rounds_Update r s R w) := ⟨by kernel_rfl⟩
theorem call_canterref08_Rounds_Update (r : Option Pt) (s : T_u8b) (R : Rs.T [.lf .bool] → WP) (w : World) (h : W_canterref08_Rounds_Update r s R w) :
    CallX Try.prog N_canterref08_Rounds_Update ([.lf (.ptr r), .agg (Ks.mk K_u8b s)].map V1.enc) w fun v w' => ∃ x, v = (retTV (Rs.mk [.lf .bool] x)).enc ∧ R x w' :=
  callX_of_semF Try.func51 (by kernel_rfl) (by kernel_rfl) (sem_canterref08_Rounds_Update r s R) h


/-- (*canter/canterref08.Win).Reset -/
def W_canterref08_Win_Reset (w' : Option Pt) (t : Int) (v : Int) (R : Rs.T [] → WP) : WP :=
  deref w' fun q1 =>
  st ⟨q1.b, q1.o + 1⟩ [.int .u64 t, .int .u64 t, .int .u64 t] <|
  deref w' fun q2 =>
  st ⟨q2.b, q2.o + 4⟩ [.int .u64 v, .int .u64 v, .int .u64 v] <|
  deref w' fun q3 =>
  ld [.int .u64] ⟨q3.b, q3.o + 7⟩ fun (x4 : Int) =>
  deref w' fun q5 =>
  st ⟨q5.b, q5.o + 7⟩ [.int .u64 (if t > x4 then t else x4)] <|
  R ()
theorem sem_canterref08_Win_Reset (w' : Option Pt) (t : Int) (v : Int) (R : Rs.T [] → WP) : Same (semF Try.prog Try.f86 (.s .o .o) [.lf (.ptr w'), .lf (.int .u64 t), .lf (.int .u64 v)] [] R) (fun w => W_canterref08_Win_Reset w' t v R w) := ⟨by kernel_rfl⟩
theorem call_canterref08_Win_Reset (w' : Option Pt) (t : Int) (v : Int) (R : Rs.T [] → WP) (w : World) (h : W_canterref08_Win_Reset w' t v R w) :
    CallX Try.prog N_canterref08_Win_Reset ([.lf (.ptr w'), .lf (.int .u64 t), .lf (.int .u64 v)].map V1.enc) w fun v w' => ∃ x, v = (retTV (Rs.mk [] x)).enc ∧ R x w' :=
  callX_of_semF Try.func86 (by kernel_rfl) (by kernel_rfl) (sem_canterref08_Win_Reset w' t v R) h



end Go.X
