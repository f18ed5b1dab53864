/- What each function of the program computes, as a weakest precondition, printed by program; the kernel sees that the code says so. -/
import Derived.Test.YtkideobegadadaaGreatK
import Derived.Test.YtkideobegadadaaGreatProg
set_option linter.unusedVariables false
set_option linter.unusedSimpArgs false
set_option linter.unusedSectionVars false
namespace Go.X
open Go.Proofs
def W_bbr_Model_State (m : Option Pt) (R : Rs.T [.agg K_i2u6b2] → WP) : WP :=
 new [zi, zi, zu, zu, zu, zu, zu, zu, .bool false, .bool false] fun n1 =>
 ite' m.isNone (
 st ⟨n1, 0⟩ [zi, zi, zu, zu, zu, zu, zu, zu, .bool false, .bool false] <|
 ld K_i2u6b2 ⟨n1, 0⟩ fun (x2 : T_i2u6b2) =>
 R x2) <|
 drw <|
 deref m fun q3 =>
 deref m fun q4 =>
 deref m fun q5 =>
 deref m fun q6 =>
 deref m fun q7 =>
 deref m fun q8 =>
 deref m fun q9 =>
 lo ci q3 7 fun (x10 : Int) =>
 lo cu q4 8 fun (x11 : Int) =>
 lo cu q5 9 fun (x12 : Int) =>
 lo cp q6 4 fun (x13 : Option Pt) =>
 lo cp q7 1 fun (x14 : Option Pt) =>
 lo cp q8 3 fun (x15 : Option Pt) =>
 lo cp q9 2 fun (x16 : Option Pt) =>
 call Tryz.prog N_bbr_Model_bw [vp m] [qu] fun (r17 : Int) =>
 ck q9 2 cp x16 <|
 ck q8 3 cp x15 <|
 ck q7 1 cp x14 <|
 ck q6 4 cp x13 <|
 ck q5 9 cu x12 <|
 ck q4 8 cu x11 <|
 ck q3 7 ci x10 <|
 call Tryz.prog N_probe_Probe_Best [vp x13] [qu] fun (r18 : Int) =>
 ck q9 2 cp x16 <|
 ck q8 3 cp x15 <|
 ck q7 1 cp x14 <|
 ck q5 9 cu x12 <|
 ck q4 8 cu x11 <|
 ck q3 7 ci x10 <|
 call Tryz.prog N_bbr_Model_gain [vp m] [qu] fun (r19 : Int) =>
 ck q9 2 cp x16 <|
 ck q8 3 cp x15 <|
 ck q7 1 cp x14 <|
 ck q5 9 cu x12 <|
 ck q4 8 cu x11 <|
 ck q3 7 ci x10 <|
 call Tryz.prog N_rounds_Rounds_Count [vp x14] [qu] fun (r20 : Int) =>
 ck q9 2 cp x16 <|
 ck q8 3 cp x15 <|
 ck q5 9 cu x12 <|
 ck q4 8 cu x11 <|
 ck q3 7 ci x10 <|
 call Tryz.prog N_cycle_Cycle_Phase [vp x15] [qi] fun (r21 : Int) =>
 ck q9 2 cp x16 <|
 ck q5 9 cu x12 <|
 ck q4 8 cu x11 <|
 ck q3 7 ci x10 <|
 call Tryz.prog N_pipe_Pipe_Full [vp x16] [qb] fun (r22 : Bool) =>
 ck q5 9 cu x12 <|
 ck q4 8 cu x11 <|
 ck q3 7 ci x10 <|
 call Tryz.prog N_bbr_Model_policed [vp m] [qb] fun (r23 : Bool) =>
 ck q5 9 cu x12 <|
 ck q4 8 cu x11 <|
 ck q3 7 ci x10 <|
 st ⟨n1, 0⟩ [.int .i64 x10, .int .i64 r21, .int .u64 x11, .int .u64 x12, .int .u64 r17, .int .u64 r18, .int .u64 r19, .int .u64 r20, .bool r22, .bool r23] <|
 ld K_i2u6b2 ⟨n1, 0⟩ fun (x24 : T_i2u6b2) =>
 R x24
theorem call_bbr_Model_State (m : Option Pt) (R : Rs.T [.agg K_i2u6b2] → WP) (w : World) (h : W_bbr_Model_State m R w) : CW Tryz.prog N_bbr_Model_State [vp m] [.agg K_i2u6b2] R w := cs Tryz.func46 (.s .o (.s (.s .o (.s (.s .o .o) .o)) (.s (.d (.f 0 [0] (.f 4 [0] (.f 8 [0] (.f 12 [0] (.f 14 [0] (.f 19 [0] (.f 21 [0] (.f 26 [0] (.f 31 [0] (.f 36 [0] (.f 1 [6] (.f 5 [10] (.f 9 [14] (.f 15 [20] (.f 22 [27] (.f 27 [32] (.f 32 [37] (.f 2 [7] (.f 6 [11] (.f 10 [15] (.f 16 [21] (.f 23 [28] (.f 28 [33] (.f 33 [38] (.f 3 [8] (.f 7 [12] (.f 11 [16] (.f 17 [22] (.f 24 [29] (.f 29 [34] (.f 34 [39] (.w 13 [18] (.w 18 [23] (.w 20 [25] (.w 25 [30] (.w 30 [35] (.w 35 [40] (.w 37 [42] (.f 38 [9, 13, 17, 19, 24, 26, 31, 36, 41, 43] (.w 39 [2, 44] .fin))))))))))))))))))))))))))))))))))))))))) .o))) h (by kernel_rfl)
def W_bbr_Model_Update (d : Option Pt) (o : T_u8b) (a : Int) (R : Rs.T [.agg K_i2u6b2] → WP) : WP :=
 new (Ks.mk K_u8b o) fun n1 =>
 new [zi, zi, zu, zu, zu, zu, zu, zu, .bool false, .bool false] fun n2 =>
 ite' d.isNone (
 st ⟨n2, 0⟩ [zi, zi, zu, zu, zu, zu, zu, zu, .bool false, .bool false] <|
 ld K_i2u6b2 ⟨n2, 0⟩ fun (x3 : T_i2u6b2) =>
 R x3) <|
 drw <|
 ld K_u8b ⟨n1, 0⟩ fun (x4 : T_u8b) =>
 deref d fun q5 =>
 lo cp q5 1 fun (x6 : Option Pt) =>
 call Tryz.prog N_rounds_Rounds_Update [vp x6, .agg (Ks.mk K_u8b x4)] [qb] fun (r7 : Bool) =>
 drw <|
 ld K_u8b ⟨n1, 0⟩ fun (x8 : T_u8b) =>
 deref d fun q9 =>
 lo cp q9 5 fun (x10 : Option Pt) =>
 call Tryz.prog N_policer_Policer_Update [vp x10, .lf (.bool r7), .agg (Ks.mk K_u8b x8)] [] fun (r11 : Unit) =>
 ld K_u8b ⟨n1, 0⟩ fun (x12 : T_u8b) =>
 call Tryz.prog N_bbr_Model_measure [vp d, .agg (Ks.mk K_u8b x12)] [] fun (r13 : Unit) =>
 join [] (fun J14 =>
 join cb (fun J16 =>
 deref d fun q18 =>
 lo ci q18 7 fun (x19 : Int) =>
 ite' (x19 == (2:Int)) (
 call Tryz.prog N_bbr_Model_policed [vp d] [qb] fun (r20 : Bool) =>
 J16 (!r20)) <|
 J16 false) fun (y17 : Bool) =>
 ite' y17 (
 drw <|
 deref d fun q21 =>
 ld cu ⟨n1, 0⟩ fun (x22 : Int) =>
 deref d fun q23 =>
 ld cu ⟨n1, 6⟩ fun (x24 : Int) =>
 ld cu ⟨n1, 7⟩ fun (x25 : Int) =>
 lo cp q21 3 fun (x26 : Option Pt) =>
 lo cp q23 4 fun (x27 : Option Pt) =>
 call Tryz.prog N_probe_Probe_Best [vp x27] [qu] fun (r28 : Int) =>
 ck q21 3 cp x26 <|
 chk ⟨n1, 7⟩ (Ks.mk cu x25) <|
 chk ⟨n1, 6⟩ (Ks.mk cu x24) <|
 chk ⟨n1, 0⟩ (Ks.mk cu x22) <|
 call Tryz.prog N_bbr_Model_bdp [vp d, .lf (.int .u64 (320:Int))] [qu] fun (r29 : Int) =>
 ck q21 3 cp x26 <|
 chk ⟨n1, 7⟩ (Ks.mk cu x25) <|
 chk ⟨n1, 6⟩ (Ks.mk cu x24) <|
 chk ⟨n1, 0⟩ (Ks.mk cu x22) <|
 call Tryz.prog N_bbr_Model_bdp [vp d, .lf (.int .u64 (256:Int))] [qu] fun (r30 : Int) =>
 ck q21 3 cp x26 <|
 chk ⟨n1, 7⟩ (Ks.mk cu x25) <|
 chk ⟨n1, 6⟩ (Ks.mk cu x24) <|
 chk ⟨n1, 0⟩ (Ks.mk cu x22) <|
 call Tryz.prog N_cycle_Cycle_Update [vp x26, vu x22, vu r28, vu x24, vu x25, vu r29, vu r30] [qb] fun (r31 : Bool) =>
 J14 ()) <|
 J14 ()) fun (y15 : Unit) =>
 drw <|
 deref d fun q32 =>
 ld cb ⟨n1, 8⟩ fun (x33 : Bool) =>
 deref d fun q34 =>
 lo cp q32 2 fun (x35 : Option Pt) =>
 ld cp q34 fun (x36 : Option Pt) =>
 call Tryz.prog N_winmax_Max_Best [vp x36] [qu] fun (r37 : Int) =>
 ck q32 2 cp x35 <|
 chk ⟨n1, 8⟩ (Ks.mk cb x33) <|
 call Tryz.prog N_pipe_Pipe_Update [vp x35, .lf (.bool r7), .lf (.bool x33), vu r37] [qb] fun (r38 : Bool) =>
 ld K_u8b ⟨n1, 0⟩ fun (x39 : T_u8b) =>
 call Tryz.prog N_bbr_Model_modes [vp d, .agg (Ks.mk K_u8b x39)] [] fun (r40 : Unit) =>
 ld K_u8b ⟨n1, 0⟩ fun (x41 : T_u8b) =>
 call Tryz.prog N_bbr_Model_look [vp d, .agg (Ks.mk K_u8b x41), .lf (.bool r7)] [] fun (r42 : Unit) =>
 call Tryz.prog N_bbr_Model_pace [vp d] [] fun (r43 : Unit) =>
 ld K_u8b ⟨n1, 0⟩ fun (x44 : T_u8b) =>
 call Tryz.prog N_bbr_Model_recover [vp d, .agg (Ks.mk K_u8b x44), .lf (.bool r7)] [] fun (r45 : Unit) =>
 ld K_u8b ⟨n1, 0⟩ fun (x46 : T_u8b) =>
 call Tryz.prog N_bbr_Model_window [vp d, .agg (Ks.mk K_u8b x46), vu a] [] fun (r47 : Unit) =>
 call Tryz.prog N_bbr_Model_State [vp d] [.agg K_i2u6b2] fun (r48 : T_i2u6b2) =>
 st ⟨n2, 0⟩ (Ks.mk K_i2u6b2 r48) <|
 ld K_i2u6b2 ⟨n2, 0⟩ fun (x49 : T_i2u6b2) =>
 R x49
theorem call_bbr_Model_Update (d : Option Pt) (o : T_u8b) (a : Int) (R : Rs.T [.agg K_i2u6b2] → WP) (w : World) (h : W_bbr_Model_Update d o a R w) : CW Tryz.prog N_bbr_Model_Update [vp d, .agg (Ks.mk K_u8b o), vu a] [.agg K_i2u6b2] R w := cs Tryz.func101 (.s .o (.s (.s .o (.s (.s .o .o) .o)) (.s (.d (.f 0 [0] (.f 4 [4] (.f 1 [11] (.f 2 [12] (.f 3 [13] (.w 5 [14, 15] (.w 6 [16] .fin)))))))) (.s (.d (.f 0 [0] (.f 4 [7] (.f 5 [4] (.f 1 [17] (.f 2 [18] (.f 3 [19] (.w 6 [20, 21, 22] .fin)))))))) (.s .o (.j [] (.j [(36, qb)] .o (.s (.d (.f 0 [0] (.f 4 [4] (.f 6 [0] (.f 11 [4] (.f 13 [4] (.f 15 [0] (.f 17 [0] (.f 1 [37] (.f 5 [41] (.f 7 [43] (.f 12 [48] (.f 14 [50] (.f 2 [38] (.f 8 [44] (.f 3 [39] (.f 9 [45] (.w 10 [46] (.w 16 [52] (.w 18 [54] (.w 19 [40, 42, 47, 49, 51, 53, 55] .fin))))))))))))))))))))) .o)) (.s (.d (.f 0 [0] (.f 4 [7] (.f 5 [4] (.f 7 [0] (.f 1 [57] (.f 6 [62] (.f 8 [64] (.f 2 [58] (.f 9 [65] (.f 3 [59] (.f 10 [66] (.w 11 [67] (.w 12 [60, 61, 63, 68] .fin)))))))))))))) (.s .o (.s .o (.s .o (.s .o (.s .o (.s .o .o))))))))))))) h (by kernel_rfl)
def W_bbr_Model_back (m : Option Pt) (R : Rs.T [] → WP) : WP :=
 drw <|
 deref m fun q1 =>
 deref m fun q2 =>
 lo cu q1 9 fun (x3 : Int) =>
 lo cu q2 10 fun (x4 : Int) =>
 deref m fun q5 =>
 so q5 9 [.int .u64 (if x4 > x3 then x4 else x3)] <|
 deref m fun q6 =>
 so q6 10 [zu] <|
 R ()
theorem call_bbr_Model_back (m : Option Pt) (R : Rs.T [] → WP) (w : World) (h : W_bbr_Model_back m R w) : CW Tryz.prog N_bbr_Model_back [vp m] [] R w := cs Tryz.func167 (.d (.f 0 [0] (.f 1 [0] (.f 2 [0] (.f 6 [0] (.f 3 [4] (.f 7 [8] (.f 4 [5] (.f 8 [9] (.f 5 [6] (.f 9 [10] (.f 10 [7, 11] (.f 11 [2] (.f 12 [13] (.w 13 [12, 14] (.f 14 [3] (.f 15 [15] (.w 16 [16] .fin)))))))))))))))))) h (by kernel_rfl)
def W_bbr_Model_bdp (m : Option Pt) (gain : Int) (R : Rs.T [qu] → WP) : WP :=
 drw <|
 deref m fun q1 =>
 lo cp q1 4 fun (x2 : Option Pt) =>
 call Tryz.prog N_bbr_Model_bw [vp m] [qu] fun (r3 : Int) =>
 ck q1 4 cp x2 <|
 call Tryz.prog N_probe_Probe_Best [vp x2] [qu] fun (r4 : Int) =>
 call Tryz.prog N_target_Bdp [vu r3, vu r4, vu gain] [qu] fun (r5 : Int) =>
 R r5
theorem call_bbr_Model_bdp (m : Option Pt) (gain : Int) (R : Rs.T [qu] → WP) (w : World) (h : W_bbr_Model_bdp m gain R w) : CW Tryz.prog N_bbr_Model_bdp [vp m, vu gain] [qu] R w := cs Tryz.func132 (.s .o (.s (.d (.f 0 [0] (.f 2 [0] (.f 7 [1] (.f 3 [7] (.f 4 [8] (.f 5 [9] (.w 1 [5] (.w 6 [10] (.w 8 [6, 11, 12] (.w 9 [13] .fin))))))))))) .o)) h (by kernel_rfl)
def W_bbr_Model_bw (m : Option Pt) (R : Rs.T [qu] → WP) : WP :=
 deref m fun q1 =>
 lo cp q1 5 fun (x2 : Option Pt) =>
 call Tryz.prog N_policer_Policer_Use [vp x2] [qu, qb] fun (r3 : Int × Bool) =>
 ite' r3.2 (
 R r3.1) <|
 deref m fun q4 =>
 ld cp q4 fun (x5 : Option Pt) =>
 call Tryz.prog N_winmax_Max_Best [vp x5] [qu] fun (r6 : Int) =>
 R r6
theorem call_bbr_Model_bw (m : Option Pt) (R : Rs.T [qu] → WP) (w : World) (h : W_bbr_Model_bw m R w) : CW Tryz.prog N_bbr_Model_bw [vp m] [qu] R w := cs Tryz.func90 (.s .o (.s (.s .o (.s .o (.s (.s .o .o) .o))) (.s .o .o))) h (by kernel_rfl)
def W_bbr_Model_cruise (m : Option Pt) (now : Int) (R : Rs.T [] → WP) : WP :=
 deref m fun q1 =>
 so q1 7 [.int .i64 (2:Int)] <|
 deref m fun q2 =>
 lo cp q2 3 fun (x3 : Option Pt) =>
 call Tryz.prog N_cycle_Cycle_Start [vp x3, vu now, .lf (.int .i64 (2:Int))] [] fun (r4 : Unit) =>
 R ()
theorem call_bbr_Model_cruise (m : Option Pt) (now : Int) (R : Rs.T [] → WP) (w : World) (h : W_bbr_Model_cruise m now R w) : CW Tryz.prog N_bbr_Model_cruise [vp m, vu now] [] R w := cs Tryz.func164 (.s .o .o) h (by kernel_rfl)
def W_bbr_Model_floor (m : Option Pt) (R : Rs.T [qu] → WP) : WP :=
 deref m fun q1 =>
 lo cu q1 6 fun (x2 : Int) =>
 R (IntKind.u64.wrap ((4:Int) * x2))
theorem call_bbr_Model_floor (m : Option Pt) (R : Rs.T [qu] → WP) (w : World) (h : W_bbr_Model_floor m R w) : CW Tryz.prog N_bbr_Model_floor [vp m] [qu] R w := cs Tryz.func166 (.s .o (.s .o .o)) h (by kernel_rfl)
def W_bbr_Model_gain (m : Option Pt) (R : Rs.T [qu] → WP) : WP :=
 deref m fun q1 =>
 lo ci q1 7 fun (x2 : Int) =>
 ite' (x2 == (0:Int)) (
 R (739:Int)) <|
 deref m fun q3 =>
 lo ci q3 7 fun (x4 : Int) =>
 ite' (x4 == (1:Int)) (
 R (88:Int)) <|
 join cb (fun J5 =>
 deref m fun q7 =>
 lo ci q7 7 fun (x8 : Int) =>
 ite' (x8 == (2:Int)) (
 call Tryz.prog N_bbr_Model_policed [vp m] [qb] fun (r9 : Bool) =>
 J5 (!r9)) <|
 J5 false) fun (y6 : Bool) =>
 ite' y6 (
 deref m fun q10 =>
 lo cp q10 3 fun (x11 : Option Pt) =>
 call Tryz.prog N_cycle_Cycle_Gain [vp x11] [qu] fun (r12 : Int) =>
 R r12) <|
 R (256:Int)
theorem call_bbr_Model_gain (m : Option Pt) (R : Rs.T [qu] → WP) (w : World) (h : W_bbr_Model_gain m R w) : CW Tryz.prog N_bbr_Model_gain [vp m] [qu] R w := cs Tryz.func92 (.s .o (.s (.b (.s .o (.s (.s .o .o) (.s .o (.s (.s .o .o) (.j [(15, qb)] .o (.s (.s .o .o) .o))))))) (.s .o .o))) h (by kernel_rfl)
def W_bbr_Model_look (m : Option Pt) (s : T_u8b) (start : Bool) (R : Rs.T [] → WP) : WP :=
 new (Ks.mk K_u8b s) fun n1 =>
 drw <|
 deref m fun q2 =>
 ld cu ⟨n1, 0⟩ fun (x3 : Int) =>
 ld cu ⟨n1, 4⟩ fun (x4 : Int) =>
 ld cu ⟨n1, 7⟩ fun (x5 : Int) =>
 lo cp q2 4 fun (x6 : Option Pt) =>
 call Tryz.prog N_bbr_Model_floor [vp m] [qu] fun (r7 : Int) =>
 ck q2 4 cp x6 <|
 chk ⟨n1, 7⟩ (Ks.mk cu x5) <|
 chk ⟨n1, 4⟩ (Ks.mk cu x4) <|
 chk ⟨n1, 0⟩ (Ks.mk cu x3) <|
 call Tryz.prog N_probe_Probe_Update [vp x6, vu x3, vu x4, .lf (.bool start), vu x5, vu r7] [qb, qb] fun (r8 : Bool × Bool) =>
 ite' r8.1 (
 drw <|
 deref m fun q9 =>
 deref m fun q10 =>
 lo cu q9 10 fun (x11 : Int) =>
 lo cu q10 9 fun (x12 : Int) =>
 deref m fun q13 =>
 so q13 10 [.int .u64 (if x12 > x11 then x12 else x11)] <|
 deref m fun q14 =>
 so q14 7 [.int .i64 (3:Int)] <|
 R ()) <|
 ite' r8.2 (
 call Tryz.prog N_bbr_Model_back [vp m] [] fun (r15 : Unit) =>
 deref m fun q16 =>
 so q16 7 [zi] <|
 deref m fun q17 =>
 lo cp q17 2 fun (x18 : Option Pt) =>
 call Tryz.prog N_pipe_Pipe_Full [vp x18] [qb] fun (r19 : Bool) =>
 ite' r19 (
 ld cu ⟨n1, 0⟩ fun (x20 : Int) =>
 call Tryz.prog N_bbr_Model_cruise [vp m, vu x20] [] fun (r21 : Unit) =>
 R ()) <|
 R ()) <|
 R ()
theorem call_bbr_Model_look (m : Option Pt) (s : T_u8b) (start : Bool) (R : Rs.T [] → WP) (w : World) (h : W_bbr_Model_look m s start R w) : CW Tryz.prog N_bbr_Model_look [vp m, .agg (Ks.mk K_u8b s), .lf (.bool start)] [] R w := cs Tryz.func135 (.s .o (.s (.d (.f 0 [0] (.f 4 [4] (.f 6 [4] (.f 8 [2] (.f 9 [4] (.f 11 [0] (.f 1 [9] (.f 5 [13] (.f 7 [15] (.f 10 [18] (.f 2 [10] (.f 3 [11] (.w 12 [20] (.w 13 [12, 14, 16, 17, 19, 21] (.f 14 [22] (.f 15 [8] (.f 16 [8] (.w 17 [23] (.w 18 [24] .fin)))))))))))))))))))) (.b (.s .o (.s (.d (.f 0 [0] (.f 1 [0] (.f 2 [0] (.f 6 [0] (.f 3 [29] (.f 7 [33] (.f 4 [30] (.f 8 [34] (.f 5 [31] (.f 9 [35] (.f 10 [32, 36] (.f 11 [27] (.f 12 [38] (.w 13 [37, 39] (.f 14 [28] (.f 15 [40] (.w 16 [41] .fin)))))))))))))))))) (.s .o (.s (.s .o (.s .o (.s .o (.s .o .o)))) .o))))))) h (by kernel_rfl)
def W_bbr_Model_measure (m : Option Pt) (s : T_u8b) (R : Rs.T [] → WP) : WP :=
 new (Ks.mk K_u8b s) fun n1 =>
 join [] (fun J2 =>
 ld cu ⟨n1, 5⟩ fun (x4 : Int) =>
 ite' (x4 == (0:Int)) (
 R ()) <|
 ld cu ⟨n1, 3⟩ fun (x5 : Int) =>
 ite' (x5 == (0:Int)) (
 R ()) <|
 J2 ()) fun (y3 : Unit) =>
 drw <|
 ld cu ⟨n1, 1⟩ fun (x6 : Int) =>
 ld cu ⟨n1, 2⟩ fun (x7 : Int) =>
 ld cu ⟨n1, 3⟩ fun (x8 : Int) =>
 call Tryz.prog N_sat_Sub [vu x6, vu x7] [qu] fun (r9 : Int) =>
 chk ⟨n1, 3⟩ (Ks.mk cu x8) <|
 call Tryz.prog N_wide_MulDiv [vu r9, .lf (.int .u64 (1000000000:Int)), vu x8] [qu] fun (r10 : Int) =>
 join cb (fun J11 =>
 ld cb ⟨n1, 8⟩ fun (x13 : Bool) =>
 ite' (!x13) (
 J11 true) <|
 deref m fun q14 =>
 ld cp q14 fun (x15 : Option Pt) =>
 call Tryz.prog N_winmax_Max_Best [vp x15] [qu] fun (r16 : Int) =>
 J11 (decide (r10 ≥ r16))) fun (y12 : Bool) =>
 ite' y12 (
 drw <|
 deref m fun q17 =>
 deref m fun q18 =>
 ld cp q17 fun (x19 : Option Pt) =>
 lo cp q18 1 fun (x20 : Option Pt) =>
 call Tryz.prog N_rounds_Rounds_Count [vp x20] [qu] fun (r21 : Int) =>
 chk q17 (Ks.mk cp x19) <|
 call Tryz.prog N_winmax_Max_Update [vp x19, vu r21, vu r10] [qu] fun (r22 : Int) =>
 R ()) <|
 R ()
theorem call_bbr_Model_measure (m : Option Pt) (s : T_u8b) (R : Rs.T [] → WP) (w : World) (h : W_bbr_Model_measure m s R w) : CW Tryz.prog N_bbr_Model_measure [vp m, .agg (Ks.mk K_u8b s)] [] R w := cs Tryz.func130 (.s .o (.j [] (.s .o (.s .o .o)) (.s (.d (.f 0 [3] (.f 2 [3] (.f 5 [3] (.f 1 [13] (.f 3 [15] (.f 6 [18] (.w 4 [14, 16] (.w 7 [17, 19] (.w 8 [20] .fin)))))))))) (.j [(32, qb)] .o (.s (.d (.f 0 [0] (.f 4 [0] (.f 9 [4] (.f 1 [33] (.f 5 [37] (.f 2 [34] (.f 6 [38] (.f 3 [35] (.f 7 [39] (.w 8 [40] (.w 10 [36, 41, 42] .fin)))))))))))) .o))))) h (by kernel_rfl)
def W_bbr_Model_modes (m : Option Pt) (s : T_u8b) (R : Rs.T [] → WP) : WP :=
 new (Ks.mk K_u8b s) fun n1 =>
 loop [] () fun J2 (y3 : Unit) =>
 join cb (fun J4 =>
 deref m fun q6 =>
 lo ci q6 7 fun (x7 : Int) =>
 ite' (x7 == (0:Int)) (
 deref m fun q8 =>
 lo cp q8 2 fun (x9 : Option Pt) =>
 call Tryz.prog N_pipe_Pipe_Full [vp x9] [qb] fun (r10 : Bool) =>
 J4 r10) <|
 J4 false) fun (y5 : Bool) =>
 ite' y5 (
 deref m fun q11 =>
 so q11 7 [.int .i64 (1:Int)] <|
 J2 ()) <|
 join cb (fun J12 =>
 drw <|
 deref m fun q14 =>
 lo ci q14 7 fun (x15 : Int) =>
 ite' (x15 == (1:Int)) (
 deref m fun q16 =>
 lo cp q16 4 fun (x17 : Option Pt) =>
 call Tryz.prog N_probe_Probe_Best [vp x17] [qu] fun (r18 : Int) =>
 ite' (decide (r18 > (0:Int))) (
 ld cu ⟨n1, 7⟩ fun (x19 : Int) =>
 call Tryz.prog N_bbr_Model_bdp [vp m, .lf (.int .u64 (256:Int))] [qu] fun (r20 : Int) =>
 chk ⟨n1, 7⟩ (Ks.mk cu x19) <|
 J12 (decide (x19 ≤ r20))) <|
 J12 false) <|
 J12 false) fun (y13 : Bool) =>
 ite' y13 (
 ld cu ⟨n1, 0⟩ fun (x21 : Int) =>
 call Tryz.prog N_bbr_Model_cruise [vp m, vu x21] [] fun (r22 : Unit) =>
 R ()) <|
 R ()
theorem call_bbr_Model_modes (m : Option Pt) (s : T_u8b) (R : Rs.T [] → WP) (w : World) (h : W_bbr_Model_modes m s R w) : CW Tryz.prog N_bbr_Model_modes [vp m, .agg (Ks.mk K_u8b s)] [] R w := cs Tryz.func134 (.s .o (.s .o (.b (.l [] (.b (.b (.j [(4, qb)] .o (.s .o (.j [(20, qb)] (.d (.f 0 [0] (.f 1 [21] (.f 2 [22] (.f 3 [23] (.f 4 [24] (.f 5 [25] (.f 6 [0, 26] (.f 7 [26, 27] (.f 8 [26, 28] (.f 9 [26, 29] (.w 10 [26, 30] (.f 11 [26, 31] (.f 12 [26, 32] (.f 13 [33] (.f 14 [3, 34] (.f 16 [0, 34] (.f 15 [34, 35] (.w 17 [34, 37] (.f 18 [34, 36, 38] (.f 19 [34, 39] (.w 20 [40] .fin)))))))))))))))))))))) (.s (.s .o .o) .o)))))))))) h (by kernel_rfl)
def W_bbr_Model_pace (m : Option Pt) (R : Rs.T [] → WP) : WP :=
 call Tryz.prog N_bbr_Model_bw [vp m] [qu] fun (r1 : Int) =>
 ite' (r1 == (0:Int)) (
 R ()) <|
 call Tryz.prog N_bbr_Model_bw [vp m] [qu] fun (r2 : Int) =>
 call Tryz.prog N_bbr_Model_gain [vp m] [qu] fun (r3 : Int) =>
 call Tryz.prog N_target_Rate [vu r2, vu r3] [qu] fun (r4 : Int) =>
 join cb (fun J5 =>
 deref m fun q7 =>
 lo cp q7 2 fun (x8 : Option Pt) =>
 call Tryz.prog N_pipe_Pipe_Full [vp x8] [qb] fun (r9 : Bool) =>
 ite' r9 (
 J5 true) <|
 deref m fun q10 =>
 lo cu q10 8 fun (x11 : Int) =>
 J5 (decide ((if (1:Int) > r4 then (1:Int) else r4) > x11))) fun (y6 : Bool) =>
 ite' y6 (
 deref m fun q12 =>
 so q12 8 [.int .u64 (if (1:Int) > r4 then (1:Int) else r4)] <|
 R ()) <|
 R ()
theorem call_bbr_Model_pace (m : Option Pt) (R : Rs.T [] → WP) (w : World) (h : W_bbr_Model_pace m R w) : CW Tryz.prog N_bbr_Model_pace [vp m] [] R w := cs Tryz.func136 (.s (.s .o (.s .o .o)) (.s .o (.j [(24, qb)] .o (.s .o .o)))) h (by kernel_rfl)
def W_bbr_Model_policed (m : Option Pt) (R : Rs.T [qb] → WP) : WP :=
 deref m fun q1 =>
 lo cp q1 5 fun (x2 : Option Pt) =>
 call Tryz.prog N_policer_Policer_Use [vp x2] [qu, qb] fun (r3 : Int × Bool) =>
 R r3.2
theorem call_bbr_Model_policed (m : Option Pt) (R : Rs.T [qb] → WP) (w : World) (h : W_bbr_Model_policed m R w) : CW Tryz.prog N_bbr_Model_policed [vp m] [qb] R w := cs Tryz.func96 (.s .o (.s .o (.s .o .o))) h (by kernel_rfl)
def W_bbr_Model_recover (d : Option Pt) (o : T_u8b) (a : Bool) (R : Rs.T [] → WP) : WP :=
 new (Ks.mk K_u8b o) fun n1 =>
 join cb (fun J2 =>
 ld cu ⟨n1, 6⟩ fun (x4 : Int) =>
 ite' (decide (x4 > (0:Int))) (
 deref d fun q5 =>
 lo cb q5 11 fun (x6 : Bool) =>
 J2 (!x6)) <|
 J2 false) fun (y3 : Bool) =>
 ite' y3 (
 ld cu ⟨n1, 1⟩ fun (x7 : Int) =>
 ld cu ⟨n1, 7⟩ fun (x8 : Int) =>
 call Tryz.prog N_sat_Add [vu x7, vu x8] [qu] fun (r9 : Int) =>
 deref d fun q10 =>
 so q10 11 [.bool true] <|
 deref d fun q11 =>
 so q11 12 [.bool true] <|
 deref d fun q12 =>
 so q12 13 [.int .u64 r9] <|
 drw <|
 deref d fun q13 =>
 deref d fun q14 =>
 lo cu q13 10 fun (x15 : Int) =>
 lo cu q14 9 fun (x16 : Int) =>
 deref d fun q17 =>
 so q17 10 [.int .u64 (if x16 > x15 then x16 else x15)] <|
 R ()) <|
 deref d fun q18 =>
 lo cb q18 11 fun (x19 : Bool) =>
 ite' x19 (
 deref d fun q20 =>
 lo cb q20 12 fun (x21 : Bool) =>
 deref d fun q22 =>
 so q22 12 [.bool (x21 && (!a))] <|
 drw <|
 ld cu ⟨n1, 1⟩ fun (x23 : Int) =>
 deref d fun q24 =>
 lo cu q24 13 fun (x25 : Int) =>
 ite' (decide (x23 < x25)) (
 R ()) <|
 deref d fun q26 =>
 so q26 11 [.bool false] <|
 deref d fun q27 =>
 so q27 12 [.bool false] <|
 deref d fun q28 =>
 lo ci q28 7 fun (x29 : Int) =>
 ite' (x29 != (3:Int)) (
 call Tryz.prog N_bbr_Model_back [vp d] [] fun (r30 : Unit) =>
 R ()) <|
 R ()) <|
 R ()
theorem call_bbr_Model_recover (d : Option Pt) (o : T_u8b) (a : Bool) (R : Rs.T [] → WP) (w : World) (h : W_bbr_Model_recover d o a R w) : CW Tryz.prog N_bbr_Model_recover [vp d, .agg (Ks.mk K_u8b o), .lf (.bool a)] [] R w := cs Tryz.func137 (.s .o (.b (.j [(6, qb)] .o (.s (.s .o (.d (.f 0 [0] (.f 1 [0] (.f 5 [0] (.f 2 [32] (.f 6 [36] (.f 3 [33] (.f 7 [37] (.f 4 [34] (.f 8 [38] (.f 9 [35, 39] (.f 10 [31] (.f 11 [41] (.w 12 [40, 42] .fin))))))))))))))) (.s .o (.s (.s .o (.s (.s (.d (.f 0 [4] (.f 2 [0] (.f 1 [59] (.f 3 [61] (.f 4 [62] (.f 5 [63] (.f 6 [60, 64] .fin)))))))) (.s .o .o)) (.s .o (.s .o (.s .o .o))))) .o)))))) h (by kernel_rfl)
def W_bbr_Model_wideGain (m : Option Pt) (R : Rs.T [qu] → WP) : WP :=
 deref m fun q1 =>
 lo ci q1 7 fun (x2 : Int) =>
 ite' (x2 == (2:Int)) (
 R (512:Int)) <|
 ite' (x2 == (3:Int)) (
 R (256:Int)) <|
 R (739:Int)
theorem call_bbr_Model_wideGain (m : Option Pt) (R : Rs.T [qu] → WP) (w : World) (h : W_bbr_Model_wideGain m R w) : CW Tryz.prog N_bbr_Model_wideGain [vp m] [qu] R w := cs Tryz.func169 (.s .o (.s (.s .o (.b (.s .o (.s (.s .o .o) (.s .o (.s (.s .o .o) .o)))))) (.s .o .o))) h (by kernel_rfl)
def W_bbr_Model_window (d : Option Pt) (o : T_u8b) (a : Int) (R : Rs.T [] → WP) : WP :=
 new (Ks.mk K_u8b o) fun n1 =>
 drw <|
 deref d fun q2 =>
 ld cu ⟨n1, 6⟩ fun (x3 : Int) =>
 deref d fun q4 =>
 lo cu q2 9 fun (x5 : Int) =>
 lo cu q4 6 fun (x6 : Int) =>
 call Tryz.prog N_sat_Sub [vu x5, vu x3] [qu] fun (r7 : Int) =>
 ck q4 6 cu x6 <|
 deref d fun q8 =>
 so q8 9 [.int .u64 (if x6 > r7 then x6 else r7)] <|
 join [] (fun J9 =>
 deref d fun q11 =>
 lo cb q11 12 fun (x12 : Bool) =>
 ite' x12 (
 drw <|
 deref d fun q13 =>
 ld cu ⟨n1, 7⟩ fun (x14 : Int) =>
 ld cu ⟨n1, 5⟩ fun (x15 : Int) =>
 lo cu q13 9 fun (x16 : Int) =>
 call Tryz.prog N_sat_Add [vu x14, vu x15] [qu] fun (r17 : Int) =>
 ck q13 9 cu x16 <|
 deref d fun q18 =>
 so q18 9 [.int .u64 (if r17 > x16 then r17 else x16)] <|
 J9 ()) <|
 ld cu ⟨n1, 5⟩ fun (x19 : Int) =>
 ite' (decide (x19 > (0:Int))) (
 drw <|
 deref d fun q20 =>
 deref d fun q21 =>
 lo cp q20 4 fun (x22 : Option Pt) =>
 lo cu q21 6 fun (x23 : Int) =>
 call Tryz.prog N_bbr_Model_bw [vp d] [qu] fun (r24 : Int) =>
 ck q21 6 cu x23 <|
 ck q20 4 cp x22 <|
 call Tryz.prog N_probe_Probe_Best [vp x22] [qu] fun (r25 : Int) =>
 ck q21 6 cu x23 <|
 call Tryz.prog N_bbr_Model_wideGain [vp d] [qu] fun (r26 : Int) =>
 ck q21 6 cu x23 <|
 call Tryz.prog N_target_Window [vu r24, vu r25, vu r26, vu a, vu x23] [qu] fun (r27 : Int) =>
 deref d fun q28 =>
 lo cp q28 2 fun (x29 : Option Pt) =>
 call Tryz.prog N_pipe_Pipe_Full [vp x29] [qb] fun (r30 : Bool) =>
 ite' r30 (
 drw <|
 deref d fun q31 =>
 ld cu ⟨n1, 5⟩ fun (x32 : Int) =>
 lo cu q31 9 fun (x33 : Int) =>
 call Tryz.prog N_sat_Add [vu x33, vu x32] [qu] fun (r34 : Int) =>
 deref d fun q35 =>
 so q35 9 [.int .u64 (if r27 < r34 then r27 else r34)] <|
 J9 ()) <|
 join cb (fun J36 =>
 drw <|
 deref d fun q38 =>
 lo cu q38 9 fun (x39 : Int) =>
 ite' (decide (x39 < r27)) (
 J36 true) <|
 ld cu ⟨n1, 1⟩ fun (x40 : Int) =>
 deref d fun q41 =>
 lo cu q41 6 fun (x42 : Int) =>
 J36 (decide (x40 < (IntKind.u64.wrap ((10:Int) * x42))))) fun (y37 : Bool) =>
 ite' y37 (
 drw <|
 deref d fun q43 =>
 ld cu ⟨n1, 5⟩ fun (x44 : Int) =>
 lo cu q43 9 fun (x45 : Int) =>
 call Tryz.prog N_sat_Add [vu x45, vu x44] [qu] fun (r46 : Int) =>
 deref d fun q47 =>
 so q47 9 [.int .u64 r46] <|
 J9 ()) <|
 J9 ()) <|
 J9 ()) fun (y10 : Unit) =>
 drw <|
 deref d fun q48 =>
 lo cu q48 9 fun (x49 : Int) =>
 call Tryz.prog N_bbr_Model_floor [vp d] [qu] fun (r50 : Int) =>
 ck q48 9 cu x49 <|
 deref d fun q51 =>
 so q51 9 [.int .u64 (if r50 > x49 then r50 else x49)] <|
 deref d fun q52 =>
 lo ci q52 7 fun (x53 : Int) =>
 ite' (x53 == (3:Int)) (
 call Tryz.prog N_bbr_Model_floor [vp d] [qu] fun (r54 : Int) =>
 deref d fun q55 =>
 so q55 9 [.int .u64 r54] <|
 R ()) <|
 R ()
theorem call_bbr_Model_window (d : Option Pt) (o : T_u8b) (a : Int) (R : Rs.T [] → WP) (w : World) (h : W_bbr_Model_window d o a R w) : CW Tryz.prog N_bbr_Model_window [vp d, .agg (Ks.mk K_u8b o), vu a] [] R w := cs Tryz.func138 (.s .o (.s (.d (.f 0 [0] (.f 1 [0] (.f 5 [4] (.f 8 [0] (.f 2 [8] (.f 6 [12] (.f 9 [15] (.f 3 [9] (.f 10 [16] (.f 4 [10] (.f 11 [17] (.w 7 [11, 13] (.f 12 [14, 18] (.f 13 [7] (.f 14 [20] (.w 15 [19, 21] .fin))))))))))))))))) (.j [] (.s .o (.s (.d (.f 0 [0] (.f 1 [0] (.f 5 [4] (.f 7 [4] (.f 2 [27] (.f 6 [31] (.f 8 [33] (.f 3 [28] (.f 4 [29] (.w 9 [32, 34] (.f 10 [30, 35] (.f 11 [26] (.f 12 [37] (.w 13 [36, 38] .fin))))))))))))))) (.s .o (.s (.s (.d (.f 0 [0] (.f 2 [0] (.f 7 [0] (.f 9 [2] (.f 10 [0] (.f 3 [44] (.f 11 [52] (.f 4 [45] (.f 12 [53] (.f 5 [46] (.f 13 [54] (.w 1 [42] (.w 6 [47] (.w 8 [49] (.w 14 [43, 48, 50, 51, 55] (.w 15 [56] .fin))))))))))))))))) (.s .o (.s (.d (.f 0 [0] (.f 1 [0] (.f 5 [4] (.f 8 [6] (.f 2 [63] (.f 6 [67] (.f 3 [64] (.f 4 [65] (.w 7 [66, 68] (.f 9 [69, 70] (.f 10 [62] (.f 11 [72] (.w 12 [71, 73] .fin)))))))))))))) (.j [(89, qb)] (.d (.f 0 [0] (.f 4 [6] (.f 1 [74] (.f 2 [75] (.f 3 [76] (.f 5 [77, 78] (.f 6 [79] (.f 7 [4, 80] (.f 9 [0, 80] (.f 8 [80, 81] (.f 10 [80, 83] (.f 11 [80, 84] (.f 12 [80, 85] (.f 13 [80, 86] (.f 14 [80, 82, 87] (.f 15 [80, 88] .fin))))))))))))))))) (.s (.d (.f 0 [0] (.f 1 [0] (.f 5 [4] (.f 2 [91] (.f 6 [95] (.f 3 [92] (.f 4 [93] (.w 7 [94, 96] (.f 8 [90] (.f 9 [98] (.w 10 [97, 99] .fin)))))))))))) .o))))) .o)))) (.s (.d (.f 0 [0] (.f 1 [0] (.f 5 [0] (.f 2 [101] (.f 3 [102] (.f 4 [103] (.w 6 [105] (.f 7 [104, 106] (.f 8 [100] (.f 9 [108] (.w 10 [107, 109] .fin)))))))))))) (.s .o (.s .o .o)))))) h (by kernel_rfl)
def W_bbr_New (mss : Int) (R : Rs.T [qp] → WP) : WP :=
 call Tryz.prog N_winmax_New [.lf (.int .u64 (10:Int))] [qp] fun (r1 : Option Pt) =>
 call Tryz.prog N_rounds_New [] [qp] fun (r2 : Option Pt) =>
 call Tryz.prog N_pipe_New [] [qp] fun (r3 : Option Pt) =>
 call Tryz.prog N_cycle_New [] [qp] fun (r4 : Option Pt) =>
 call Tryz.prog N_probe_New [] [qp] fun (r5 : Option Pt) =>
 call Tryz.prog N_policer_New [] [qp] fun (r6 : Option Pt) =>
 new [.ptr r1, .ptr r2, .ptr r3, .ptr r4, .ptr r5, .ptr r6, .int .u64 (if (9000:Int) < (if (100:Int) > mss then (100:Int) else mss) then (9000:Int) else (if (100:Int) > mss then (100:Int) else mss)), zi, zu, zu, zu, .bool false, .bool false, zu] fun n7 =>
 deref (some ⟨n7, 0⟩) fun q8 =>
 so q8 9 [.int .u64 (IntKind.u64.wrap ((10:Int) * (if (9000:Int) < (if (100:Int) > mss then (100:Int) else mss) then (9000:Int) else (if (100:Int) > mss then (100:Int) else mss))))] <|
 deref (some ⟨n7, 0⟩) fun q9 =>
 lo cu q9 9 fun (x10 : Int) =>
 call Tryz.prog N_target_Rate [.lf (.int .u64 (IntKind.u64.wrap (x10 * (1000:Int)))), .lf (.int .u64 (739:Int))] [qu] fun (r11 : Int) =>
 deref (some ⟨n7, 0⟩) fun q12 =>
 so q12 8 [.int .u64 r11] <|
 R (some ⟨n7, 0⟩)
theorem call_bbr_New (mss : Int) (R : Rs.T [qp] → WP) (w : World) (h : W_bbr_New mss R w) : CW Tryz.prog N_bbr_New [vu mss] [qp] R w := cs Tryz.func37 (.s .o (.s .o (.s .o (.s .o (.s .o (.s .o .o)))))) h (by kernel_rfl)
def W_board_Board_Ack (d : Option Pt) (o : Int) (a : Sl) (R : Rs.T [qs, qu, qi] → WP) : WP :=
 ite' d.isNone (
 R (⟨none, 0, 0⟩, (0:Int), (2:Int))) <|
 call Tryz.prog N_board_Board_may [vp d, vu o, .lf (.sl a)] [qb] fun (r1 : Bool) =>
 ite' (!r1) (
 R (⟨none, 0, 0⟩, (0:Int), (11:Int))) <|
 deref d fun q2 =>
 ld cl q2 fun (x3 : Sl) =>
 loop K_s2i (⟨none, 0, 0⟩, ⟨none, 0, 0⟩, (0:Int)) fun J4 (y5 : T_s2i) =>
 ite' (decide (y5.2.2 < ((x3.len : Nat) : Int))) (
 idx x3 y5.2.2 9 fun q6 =>
 ld K_u6b3 q6 fun (x7 : T_u6b3) =>
 new [zu, zu, zu, zu, zu, zu, .bool false, .bool false, .bool false] fun n8 =>
 st ⟨n8, 0⟩ (Ks.mk K_u6b3 x7) <|
 ld cu ⟨n8, 1⟩ fun (x9 : Int) =>
 join cl (fun J10 =>
 join cb (fun J12 =>
 ld cb ⟨n8, 7⟩ fun (x14 : Bool) =>
 ite' (!x14) (
 ite' (decide (x9 ≤ o)) (
 J12 true) <|
 ld K_u6b3 ⟨n8, 0⟩ fun (x15 : T_u6b3) =>
 call Tryz.prog N_board_holds [.lf (.sl a), .agg (Ks.mk K_u6b3 x15)] [qb] fun (r16 : Bool) =>
 J12 r16) <|
 J12 false) fun (y13 : Bool) =>
 ite' y13 (
 ld K_u6b3 ⟨n8, 0⟩ fun (x17 : T_u6b3) =>
 new [.int .u64 x17.1, .int .u64 x17.2.1, .int .u64 x17.2.2.1, .int .u64 x17.2.2.2.1, .int .u64 x17.2.2.2.2.1, .int .u64 x17.2.2.2.2.2.1, .bool x17.2.2.2.2.2.2.1, .bool x17.2.2.2.2.2.2.2.1, .bool x17.2.2.2.2.2.2.2.2] fun n18 =>
 app 9 y5.1 ⟨some ⟨n18, 0⟩, 1, 1⟩ fun s19 =>
 st ⟨n8, 7⟩ [.bool true] <|
 st ⟨n8, 8⟩ [.bool false] <|
 J10 s19) <|
 J10 y5.1) fun (y11 : Sl) =>
 ite' (decide (x9 ≤ o)) (
 J4 (y11, y5.2.1, (IntKind.i64.wrap (y5.2.2 + (1:Int))))) <|
 ld K_u6b3 ⟨n8, 0⟩ fun (x20 : T_u6b3) =>
 new [.int .u64 x20.1, .int .u64 x20.2.1, .int .u64 x20.2.2.1, .int .u64 x20.2.2.2.1, .int .u64 x20.2.2.2.2.1, .int .u64 x20.2.2.2.2.2.1, .bool x20.2.2.2.2.2.2.1, .bool x20.2.2.2.2.2.2.2.1, .bool x20.2.2.2.2.2.2.2.2] fun n21 =>
 app 9 y5.2.1 ⟨some ⟨n21, 0⟩, 1, 1⟩ fun s22 =>
 J4 (y11, s22, (IntKind.i64.wrap (y5.2.2 + (1:Int))))) <|
 deref d fun q23 =>
 st q23 [.sl y5.2.1] <|
 call Tryz.prog N_board_Board_passed [vp d] [qu] fun (r24 : Int) =>
 R (y5.1, r24, (0:Int))
theorem call_board_Board_Ack (d : Option Pt) (o : Int) (a : Sl) (R : Rs.T [qs, qu, qi] → WP) (w : World) (h : W_board_Board_Ack d o a R w) : CW Tryz.prog N_board_Board_Ack [vp d, vu o, .lf (.sl a)] [qs, qu, qi] R w := cs Tryz.func47 (.s .o (.s (.b (.s .o (.s (.s .o .o) (.s .o (.s (.s .o .o) .o))))) (.s .o (.s .o (.s (.s .o (.b (.l [(9, qs), (10, qs), (28, qi)] (.s .o (.s (.s .o .o) (.s (.b (.s .o (.s .o (.j [(9, qs)] (.j [(46, qb)] .o (.s (.s .o .o) .o)) (.s (.s .o (.s .o .o)) .o))))) .o)))))) (.s .o (.s .o .o))))))) h (by kernel_rfl)
def W_board_Board_Again (b : Option Pt) (s : T_u4b) (R : Rs.T [.agg [.int .u64, .int .u64], qb] → WP) : WP :=
 new (Ks.mk K_u4b s) fun n1 =>
 new [zu, zu] fun n2 =>
 call Tryz.prog N_board_Board_Lost [vp b] [.agg [.int .u64, .int .u64], qb] fun (r3 : (Int × Int) × Bool) =>
 new [zu, zu] fun n4 =>
 st ⟨n4, 0⟩ (Ks.mk cr r3.1) <|
 join [] (fun J5 =>
 ite' r3.2 (
 drw <|
 deref b fun q7 =>
 ld cl q7 fun (x8 : Sl) =>
 call Tryz.prog N_board_Board_lost [vp b] [qi] fun (r9 : Int) =>
 chk q7 (Ks.mk cl x8) <|
 idx x8 r9 9 fun q10 =>
 drw <|
 ld K_u4b ⟨n1, 0⟩ fun (x11 : T_u4b) =>
 deref (some q10) fun q12 =>
 so q12 8 [.bool false] <|
 chk ⟨n1, 0⟩ (Ks.mk K_u4b x11) <|
 deref (some q10) fun q13 =>
 so q13 2 (Ks.mk K_u4b x11) <|
 J5 ()) <|
 J5 ()) fun (y6 : Unit) =>
 ld cr ⟨n4, 0⟩ fun (x14 : Int × Int) =>
 st ⟨n2, 0⟩ (Ks.mk cr x14) <|
 ld cr ⟨n2, 0⟩ fun (x15 : Int × Int) =>
 R (x15, r3.2)
theorem call_board_Board_Again (b : Option Pt) (s : T_u4b) (R : Rs.T [.agg [.int .u64, .int .u64], qb] → WP) (w : World) (h : W_board_Board_Again b s R w) : CW Tryz.prog N_board_Board_Again [vp b, .agg (Ks.mk K_u4b s)] [.agg [.int .u64, .int .u64], qb] R w := cs Tryz.func41 (.s .o (.s .o (.j [] (.s .o (.s (.s (.d (.f 0 [0] (.f 4 [0] (.f 1 [15] (.f 2 [16] (.f 3 [17] (.w 5 [19] (.f 6 [18, 20] (.w 7 [21] .fin))))))))) (.d (.f 0 [8] (.f 1 [8] (.f 2 [3] (.f 3 [22] (.f 4 [25] (.w 5 [26] (.f 6 [23] (.f 7 [27] (.w 8 [24, 28] .fin))))))))))) .o)) (.s .o .o)))) h (by kernel_rfl)
def W_board_Board_All (b : Option Pt) (R : Rs.T [.lf .fn] → WP) : WP :=
 new [.ptr b] fun n1 =>
 R (.mk (.func N_board_Board_All_c1) [] [V1.enc (.lf (.ptr (some ⟨n1, 0⟩)))])
theorem call_board_Board_All (b : Option Pt) (R : Rs.T [.lf .fn] → WP) (w : World) (h : W_board_Board_All b R w) : CW Tryz.prog N_board_Board_All [vp b] [.lf .fn] R w := cs Tryz.func103 (.s .o (.s .o .o)) h (by kernel_rfl)
def W_board_Board_All_c1 (yield : Fv) (c0 : Pt) (R : Rs.T [] → WP) : WP :=
 ld cp c0 fun (x1 : Option Pt) =>
 ite' x1.isNone (
 R ()) <|
 ld cp c0 fun (x2 : Option Pt) =>
 deref x2 fun q3 =>
 ld cl q3 fun (x4 : Sl) =>
 loop ci (0:Int) fun J5 (y6 : Int) =>
 ite' (decide (y6 < ((x4.len : Nat) : Int))) (
 idx x4 y6 9 fun q7 =>
 ld K_u6b3 q7 fun (x8 : T_u6b3) =>
 new [zu, zu, zu, zu, zu, zu, .bool false, .bool false, .bool false] fun n9 =>
 st ⟨n9, 0⟩ (Ks.mk K_u6b3 x8) <|
 ld K_u6b3 ⟨n9, 0⟩ fun (x10 : T_u6b3) =>
 callv Tryz.prog yield [.agg (Ks.mk K_u6b3 x10)] [qb] fun (r11 : Bool) =>
 ite' (!r11) (
 R ()) <|
 J5 (IntKind.i64.wrap (y6 + (1:Int)))) <|
 R ()
theorem call_board_Board_All_c1 (yield : Fv) (c0 : Pt) (R : Rs.T [] → WP) (w : World) (h : W_board_Board_All_c1 yield c0 R w) : CW Tryz.prog N_board_Board_All_c1 [.lf (.fn yield), .lf (.ptr (some c0))] [] R w := cs Tryz.func140 (.s (.s .o (.s .o .o)) (.s .o (.b (.l [(12, qi)] (.s .o (.s (.s .o .o) (.s (.b (.s .o (.s .o (.s .o .o)))) .o))))))) h (by kernel_rfl)
def W_board_Board_Flight (n0 : Nat) (b : Option Pt) (R : Rs.T [qu] → WP) : WP :=
 new [zu] fun n1 =>
 st ⟨n1, 0⟩ [zu] <|
 call Tryz.prog N_board_Board_All [vp b] [.lf .fn] fun (r2 : Fv) =>
 rangeF Tryz.prog r2 [.agg K_u6b3] (fun (v3 : T_u6b3) mid4 next5 jump6 =>
 new [zu, zu, zu, zu, zu, zu, .bool false, .bool false, .bool false] fun n7 =>
 st ⟨n7, 0⟩ (Ks.mk K_u6b3 v3) <|
 mid4 <|
 ld K_u6b3 ⟨n7, 0⟩ fun (x8 : T_u6b3) =>
 call Tryz.prog N_board_flying [.agg (Ks.mk K_u6b3 x8)] [qb] fun (r9 : Bool) =>
 ite' r9 (
 ld cu ⟨n1, 0⟩ fun (x10 : Int) =>
 ld cu ⟨n7, 1⟩ fun (x11 : Int) =>
 ld cu ⟨n7, 0⟩ fun (x12 : Int) =>
 st ⟨n1, 0⟩ [.int .u64 (IntKind.u64.wrap (x10 + (IntKind.u64.wrap (x11 - x12))))] <|
 next5) <|
 next5) fun i13 => isBy 0 i13 (ld cu ⟨n1, 0⟩ fun (x14 : Int) =>
 leave n0 <| R x14) <|
 wno
theorem call_board_Board_Flight (b : Option Pt) (R : Rs.T [qu] → WP) (w : World) (h : W_board_Board_Flight w.heap.size b R w) : CW Tryz.prog N_board_Board_Flight [vp b] [qu] R w := cs (A := fun w => W_board_Board_Flight w.heap.size b R w) Tryz.func53 (.s .o (.s .o (.s (.s .o (.b (.r [.agg K_u6b3] .o (.b (.s .o (.s .o .o)))))) (.s .o .o)))) h (by kernel_rfl)
def W_board_Board_Len (b : Option Pt) (R : Rs.T [qi] → WP) : WP :=
 ite' b.isNone (
 R (0:Int)) <|
 deref b fun q1 =>
 ld cl q1 fun (x2 : Sl) =>
 R ((x2.len : Nat) : Int)
theorem call_board_Board_Len (b : Option Pt) (R : Rs.T [qi] → WP) (w : World) (h : W_board_Board_Len b R w) : CW Tryz.prog N_board_Board_Len [vp b] [qi] R w := cs Tryz.func86 (.s .o (.s (.s .o (.s (.s .o .o) .o)) (.s .o .o))) h (by kernel_rfl)
def W_board_Board_Lose (b : Option Pt) (R : Rs.T [qu] → WP) : WP :=
 ite' b.isNone (
 R (0:Int)) <|
 deref b fun q1 =>
 ld cl q1 fun (x2 : Sl) =>
 loop [.int .u64, .int .i64] ((0:Int), (0:Int)) fun J3 (y4 : Int × Int) =>
 ite' (decide (y4.2 < ((x2.len : Nat) : Int))) (
 idx x2 y4.2 9 fun q5 =>
 ld K_u6b3 q5 fun (x6 : T_u6b3) =>
 new [zu, zu, zu, zu, zu, zu, .bool false, .bool false, .bool false] fun n7 =>
 st ⟨n7, 0⟩ (Ks.mk K_u6b3 x6) <|
 ld K_u6b3 ⟨n7, 0⟩ fun (x8 : T_u6b3) =>
 call Tryz.prog N_board_flying [.agg (Ks.mk K_u6b3 x8)] [qb] fun (r9 : Bool) =>
 ite' r9 (
 deref b fun q10 =>
 ld cl q10 fun (x11 : Sl) =>
 idx x11 y4.2 9 fun q12 =>
 so q12 8 [.bool true] <|
 ld cu ⟨n7, 1⟩ fun (x13 : Int) =>
 ld cu ⟨n7, 0⟩ fun (x14 : Int) =>
 J3 ((IntKind.u64.wrap (y4.1 + (IntKind.u64.wrap (x13 - x14)))), (IntKind.i64.wrap (y4.2 + (1:Int))))) <|
 J3 (y4.1, (IntKind.i64.wrap (y4.2 + (1:Int))))) <|
 R y4.1
theorem call_board_Board_Lose (b : Option Pt) (R : Rs.T [qu] → WP) (w : World) (h : W_board_Board_Lose b R w) : CW Tryz.prog N_board_Board_Lose [vp b] [qu] R w := cs Tryz.func54 (.s .o (.s (.s .o (.s (.s .o .o) .o)) (.s .o (.s (.s .o (.b (.l [(3, qu), (13, qi)] (.s .o (.s (.s .o .o) (.s (.b (.s .o (.s .o (.s (.s .o .o) .o)))) .o)))))) (.s .o .o))))) h (by kernel_rfl)
def W_board_Board_Lost (b : Option Pt) (R : Rs.T [.agg [.int .u64, .int .u64], qb] → WP) : WP :=
 new [zu, zu] fun n1 =>
 call Tryz.prog N_board_Board_lost [vp b] [qi] fun (r2 : Int) =>
 ite' (decide (r2 < (0:Int))) (
 st ⟨n1, 0⟩ [zu, zu] <|
 ld cr ⟨n1, 0⟩ fun (x3 : Int × Int) =>
 R (x3, false)) <|
 drw <|
 deref b fun q4 =>
 deref b fun q5 =>
 ld cl q4 fun (x6 : Sl) =>
 ld cl q5 fun (x7 : Sl) =>
 idx x6 r2 9 fun q8 =>
 idx x7 r2 9 fun q9 =>
 ld cu q8 fun (x10 : Int) =>
 lo cu q9 1 fun (x11 : Int) =>
 st ⟨n1, 0⟩ [.int .u64 x10, .int .u64 x11] <|
 ld cr ⟨n1, 0⟩ fun (x12 : Int × Int) =>
 R (x12, true)
theorem call_board_Board_Lost (b : Option Pt) (R : Rs.T [.agg [.int .u64, .int .u64], qb] → WP) (w : World) (h : W_board_Board_Lost b R w) : CW Tryz.prog N_board_Board_Lost [vp b] [.agg [.int .u64, .int .u64], qb] R w := cs Tryz.func82 (.s .o (.s .o (.s (.s .o (.s (.s .o .o) .o)) (.s (.d (.f 0 [0] (.f 4 [4] (.f 8 [0] (.f 12 [4] (.f 1 [10] (.f 9 [18] (.f 2 [11] (.f 10 [19] (.f 3 [12] (.f 11 [20] (.f 5 [13, 14] (.f 13 [21, 22] (.f 6 [15] (.f 14 [23] (.f 7 [16] (.f 15 [24] (.f 16 [17, 25] (.w 17 [2, 26] (.w 18 [] .fin)))))))))))))))))))) .o)))) h (by kernel_rfl)
def W_board_Board_Sent (b : Option Pt) (from' : Int) (to' : Int) (s : T_u4b) (R : Rs.T [qi] → WP) : WP :=
 new (Ks.mk K_u4b s) fun n1 =>
 ite' b.isNone (
 R (2:Int)) <|
 deref b fun q2 =>
 lo cu q2 1 fun (x3 : Int) =>
 ite' ((from' != x3) || (decide (to' ≤ from'))) (
 R (1:Int)) <|
 deref b fun q4 =>
 ld cl q4 fun (x5 : Sl) =>
 ite' (decide (((x5.len : Nat) : Int) ≥ (4096:Int))) (
 R (5:Int)) <|
 drw <|
 ld K_u4b ⟨n1, 0⟩ fun (x6 : T_u4b) =>
 deref b fun q7 =>
 ld cl q7 fun (x8 : Sl) =>
 new [.int .u64 from', .int .u64 to', .int .u64 x6.1, .int .u64 x6.2.1, .int .u64 x6.2.2.1, .int .u64 x6.2.2.2.1, .bool x6.2.2.2.2, .bool false, .bool false] fun n9 =>
 chk q7 (Ks.mk cl x8) <|
 app 9 x8 ⟨some ⟨n9, 0⟩, 1, 1⟩ fun s10 =>
 deref b fun q11 =>
 st q11 [.sl s10] <|
 deref b fun q12 =>
 so q12 1 [.int .u64 to'] <|
 R (0:Int)
theorem call_board_Board_Sent (b : Option Pt) (from' : Int) (to' : Int) (s : T_u4b) (R : Rs.T [qi] → WP) (w : World) (h : W_board_Board_Sent b from' to' s R w) : CW Tryz.prog N_board_Board_Sent [vp b, .lf (.int .u64 from'), .lf (.int .u64 to'), .agg (Ks.mk K_u4b s)] [qi] R w := cs Tryz.func43 (.s .o (.s (.b (.s .o (.s (.s .o .o) (.s .o (.s (.s .o .o) (.s .o (.s (.s .o .o) .o))))))) (.s (.d (.f 0 [0] (.f 1 [0] (.f 5 [1] (.f 6 [2] (.f 7 [7] (.f 2 [32] (.f 8 [36, 37, 38] (.f 3 [33] (.f 4 [34] (.w 9 [39] (.w 10 [35, 40] (.f 11 [31] (.f 12 [42] (.w 13 [41, 43] .fin))))))))))))))) (.s .o (.s .o .o))))) h (by kernel_rfl)
def W_board_Board_lost (n0 : Nat) (b : Option Pt) (R : Rs.T [qi] → WP) : WP :=
 new [zi] fun n1 =>
 new [zi] fun n2 =>
 st ⟨n2, 0⟩ [zi] <|
 call Tryz.prog N_board_Board_All [vp b] [.lf .fn] fun (r3 : Fv) =>
 rangeF Tryz.prog r3 [.agg K_u6b3] (fun (v4 : T_u6b3) mid5 next6 jump7 =>
 new [zu, zu, zu, zu, zu, zu, .bool false, .bool false, .bool false] fun n8 =>
 st ⟨n8, 0⟩ (Ks.mk K_u6b3 v4) <|
 mid5 <|
 ld cb ⟨n8, 8⟩ fun (x9 : Bool) =>
 ite' x9 (
 ld ci ⟨n2, 0⟩ fun (x10 : Int) =>
 st ⟨n1, 0⟩ [.int .i64 x10] <|
 jump7 1) <|
 ld ci ⟨n2, 0⟩ fun (x11 : Int) =>
 st ⟨n2, 0⟩ [.int .i64 (IntKind.i64.wrap (x11 + (1:Int)))] <|
 next6) fun i12 => isBy 0 i12 (st ⟨n1, 0⟩ [.int .i64 (-1:Int)] <|
 ld ci ⟨n1, 0⟩ fun (x13 : Int) =>
 leave n0 <| R x13) <|
 isBy 1 i12 (ld ci ⟨n1, 0⟩ fun (x14 : Int) =>
 leave n0 <| R x14) <|
 wno
theorem call_board_Board_lost (b : Option Pt) (R : Rs.T [qi] → WP) (w : World) (h : W_board_Board_lost w.heap.size b R w) : CW Tryz.prog N_board_Board_lost [vp b] [qi] R w := cs (A := fun w => W_board_Board_lost w.heap.size b R w) Tryz.func87 (.s .o (.s .o (.s (.s .o (.b (.r [.agg K_u6b3] .o (.b (.s (.s .o (.s (.s .o .o) .o)) .o))))) (.s .o .o)))) h (by kernel_rfl)
def W_board_Board_may (b : Option Pt) (upto : Int) (sacks : Sl) (R : Rs.T [qb] → WP) : WP :=
 new [.ptr b] fun n1 =>
 ld cp ⟨n1, 0⟩ fun (x2 : Option Pt) =>
 deref x2 fun q3 =>
 lo cu q3 1 fun (x4 : Int) =>
 ite' (decide (upto ≤ x4)) (
 call Tryz.prog N_slices_ContainsFunc_sapiRangeapiRange [.lf (.sl sacks), .lf (.fn (.mk (.func N_board_Board_may_c1) [] [V1.enc (.lf (.ptr (some ⟨n1, 0⟩)))]))] [qb] fun (r5 : Bool) =>
 R (!r5)) <|
 R false
theorem call_board_Board_may (b : Option Pt) (upto : Int) (sacks : Sl) (R : Rs.T [qb] → WP) (w : World) (h : W_board_Board_may b upto sacks R w) : CW Tryz.prog N_board_Board_may [vp b, vu upto, .lf (.sl sacks)] [qb] R w := cs Tryz.func97 (.s .o (.s .o .o)) h (by kernel_rfl)
def W_board_Board_may_c1 (r : Int × Int) (c0 : Pt) (R : Rs.T [qb] → WP) : WP :=
 new (Ks.mk cr r) fun n1 =>
 drw <|
 ld cp c0 fun (x2 : Option Pt) =>
 ld cu ⟨n1, 1⟩ fun (x3 : Int) =>
 deref x2 fun q4 =>
 lo cu q4 1 fun (x5 : Int) =>
 ite' (decide (x3 > x5)) (
 R true) <|
 ld cu ⟨n1, 0⟩ fun (x6 : Int) =>
 ld cu ⟨n1, 1⟩ fun (x7 : Int) =>
 R (decide (x6 ≥ x7))
theorem call_board_Board_may_c1 (r : Int × Int) (c0 : Pt) (R : Rs.T [qb] → WP) (w : World) (h : W_board_Board_may_c1 r c0 R w) : CW Tryz.prog N_board_Board_may_c1 [.agg (Ks.mk cr r), .lf (.ptr (some c0))] [qb] R w := cs Tryz.func126 (.s .o (.s (.d (.f 0 [2] (.f 2 [1] (.f 1 [4] (.f 3 [6] (.f 4 [7] (.f 5 [8] (.f 6 [5, 9] (.f 7 [10] (.f 8 [2, 11] (.f 10 [2, 11] (.f 9 [11, 12] (.f 11 [11, 14] (.f 12 [11, 13, 15] (.f 13 [11, 16] (.w 14 [17] .fin)))))))))))))))) .o)) h (by kernel_rfl)
def W_board_Board_passed (b : Option Pt) (R : Rs.T [qu] → WP) : WP :=
 deref b fun q1 =>
 ld cl q1 fun (x2 : Sl) =>
 loop K_ui2 ((0:Int), (0:Int), (IntKind.i64.wrap (((x2.len : Nat) : Int) - (1:Int)))) fun J3 (y4 : T_ui2) =>
 ite' (decide (y4.2.2 ≥ (0:Int))) (
 deref b fun q5 =>
 ld cl q5 fun (x6 : Sl) =>
 idx x6 y4.2.2 9 fun q7 =>
 join ci (fun J8 =>
 deref (some q7) fun q10 =>
 lo cb q10 7 fun (x11 : Bool) =>
 ite' x11 (
 J8 (IntKind.i64.wrap (y4.2.1 + (1:Int)))) <|
 J8 y4.2.1) fun (y9 : Int) =>
 deref (some q7) fun q12 =>
 ld K_u6b3 q12 fun (x13 : T_u6b3) =>
 call Tryz.prog N_board_flying [.agg (Ks.mk K_u6b3 x13)] [qb] fun (r14 : Bool) =>
 ite' (r14 && (decide (y9 ≥ (3:Int)))) (
 deref (some q7) fun q15 =>
 so q15 8 [.bool true] <|
 drw <|
 deref (some q7) fun q16 =>
 deref (some q7) fun q17 =>
 lo cu q16 1 fun (x18 : Int) =>
 ld cu q17 fun (x19 : Int) =>
 J3 ((IntKind.u64.wrap (y4.1 + (IntKind.u64.wrap (x18 - x19)))), y9, (IntKind.i64.wrap (y4.2.2 - (1:Int))))) <|
 J3 (y4.1, y9, (IntKind.i64.wrap (y4.2.2 - (1:Int))))) <|
 R y4.1
theorem call_board_Board_passed (b : Option Pt) (R : Rs.T [qu] → WP) (w : World) (h : W_board_Board_passed b R w) : CW Tryz.prog N_board_Board_passed [vp b] [qu] R w := cs Tryz.func99 (.s .o (.s .o (.s (.s .o (.b (.l [(3, qu), (4, qi), (5, qi)] (.s (.s .o (.s .o .o)) (.s (.b (.s .o (.j [(4, qi)] (.s .o (.s .o .o)) (.s .o (.s (.s .o (.d (.f 0 [3] (.f 1 [6] (.f 5 [6] (.f 2 [41] (.f 6 [45] (.f 3 [42] (.f 7 [46] (.f 4 [43] (.f 8 [47] (.f 9 [44, 48] (.f 10 [40, 49] (.w 11 [50] .fin)))))))))))))) .o))))) .o))))) (.s .o .o)))) h (by kernel_rfl)
def W_board_New  (R : Rs.T [qp] → WP) : WP :=
 new [.sl ⟨none, 0, 0⟩, zu] fun n1 =>
 R (some ⟨n1, 0⟩)
theorem call_board_New  (R : Rs.T [qp] → WP) (w : World) (h : W_board_New  R w) : CW Tryz.prog N_board_New [] [qp] R w := cs Tryz.func35 (.s .o (.s .o .o)) h (by kernel_rfl)
def W_board_flying (p : T_u6b3) (R : Rs.T [qb] → WP) : WP :=
 new (Ks.mk K_u6b3 p) fun n1 =>
 ld cb ⟨n1, 7⟩ fun (x2 : Bool) =>
 ite' (!x2) (
 ld cb ⟨n1, 8⟩ fun (x3 : Bool) =>
 R (!x3)) <|
 R false
theorem call_board_flying (p : T_u6b3) (R : Rs.T [qb] → WP) (w : World) (h : W_board_flying p R w) : CW Tryz.prog N_board_flying [.agg (Ks.mk K_u6b3 p)] [qb] R w := cs Tryz.func104 (.s .o (.s .o .o)) h (by kernel_rfl)
def W_board_holds (sacks : Sl) (p : T_u6b3) (R : Rs.T [qb] → WP) : WP :=
 new (Ks.mk K_u6b3 p) fun n1 =>
 call Tryz.prog N_slices_ContainsFunc_sapiRangeapiRange [.lf (.sl sacks), .lf (.fn (.mk (.func N_board_holds_c1) [] [V1.enc (.lf (.ptr (some ⟨n1, 0⟩)))]))] [qb] fun (r2 : Bool) =>
 R r2
theorem call_board_holds (sacks : Sl) (p : T_u6b3) (R : Rs.T [qb] → WP) (w : World) (h : W_board_holds sacks p R w) : CW Tryz.prog N_board_holds [.lf (.sl sacks), .agg (Ks.mk K_u6b3 p)] [qb] R w := cs Tryz.func98 (.s .o (.s .o .o)) h (by kernel_rfl)
def W_board_holds_c1 (r : Int × Int) (c0 : Pt) (R : Rs.T [qb] → WP) : WP :=
 new (Ks.mk cr r) fun n1 =>
 ld cu ⟨n1, 0⟩ fun (x2 : Int) =>
 ld cu c0 fun (x3 : Int) =>
 ite' (decide (x2 ≤ x3)) (
 ld cu ⟨n1, 1⟩ fun (x4 : Int) =>
 ld cu ⟨c0.b, c0.o + 1⟩ fun (x5 : Int) =>
 R (decide (x4 ≥ x5))) <|
 R false
theorem call_board_holds_c1 (r : Int × Int) (c0 : Pt) (R : Rs.T [qb] → WP) (w : World) (h : W_board_holds_c1 r c0 R w) : CW Tryz.prog N_board_holds_c1 [.agg (Ks.mk cr r), .lf (.ptr (some c0))] [qb] R w := cs Tryz.func127 (.s .o (.s .o .o)) h (by kernel_rfl)
def W_buffer_Buffer_Acked (b : Option Pt) (upto : Int) (R : Rs.T [qi] → WP) : WP :=
 ite' b.isNone (
 R (2:Int)) <|
 deref b fun q1 =>
 lo cu q1 1 fun (x2 : Int) =>
 ite' (decide (upto > x2)) (
 R (11:Int)) <|
 deref b fun q3 =>
 lo cu q3 2 fun (x4 : Int) =>
 deref b fun q5 =>
 so q5 2 [.int .u64 (if upto > x4 then upto else x4)] <|
 R (0:Int)
theorem call_buffer_Buffer_Acked (b : Option Pt) (upto : Int) (R : Rs.T [qi] → WP) (w : World) (h : W_buffer_Buffer_Acked b upto R w) : CW Tryz.prog N_buffer_Buffer_Acked [vp b, vu upto] [qi] R w := cs Tryz.func48 (.s .o (.s (.b (.s .o (.s (.s .o .o) (.s .o (.s (.s .o .o) .o))))) (.s .o (.s .o .o)))) h (by kernel_rfl)
def W_buffer_Buffer_Held (b : Option Pt) (R : Rs.T [qu] → WP) : WP :=
 ite' b.isNone (
 R (0:Int)) <|
 drw <|
 deref b fun q1 =>
 deref b fun q2 =>
 ld cu q1 fun (x3 : Int) =>
 lo cu q2 2 fun (x4 : Int) =>
 R (IntKind.u64.wrap (x3 - x4))
theorem call_buffer_Buffer_Held (b : Option Pt) (R : Rs.T [qu] → WP) (w : World) (h : W_buffer_Buffer_Held b R w) : CW Tryz.prog N_buffer_Buffer_Held [vp b] [qu] R w := cs Tryz.func81 (.s .o (.s (.s .o (.s (.s .o .o) .o)) (.s (.d (.f 0 [0] (.f 4 [0] (.f 1 [5] (.f 5 [9] (.f 2 [6] (.f 6 [10] (.f 3 [7] (.f 7 [11] (.f 8 [8, 12] (.w 9 [13] .fin))))))))))) .o))) h (by kernel_rfl)
def W_buffer_Buffer_Take (b : Option Pt) (most : Int) (R : Rs.T [.agg [.int .u64, .int .u64], qb] → WP) : WP :=
 new [zu, zu] fun n1 =>
 new [zu, zu] fun n2 =>
 st ⟨n2, 0⟩ [zu, zu] <|
 join cb (fun J3 =>
 loop cb false fun J5 (y6 : Bool) =>
 ite' (decide (most ≥ (1:Int))) (
 call Tryz.prog N_buffer_Buffer_Unsent [vp b] [qu] fun (r7 : Int) =>
 ite' ((if r7 < (IntKind.u64.wrap most) then r7 else (IntKind.u64.wrap most)) == (0:Int)) (
 J3 y6) <|
 drw <|
 deref b fun q8 =>
 deref b fun q9 =>
 lo cu q8 1 fun (x10 : Int) =>
 lo cu q9 1 fun (x11 : Int) =>
 st ⟨n2, 0⟩ [.int .u64 x10, .int .u64 (IntKind.u64.wrap (x11 + (if r7 < (IntKind.u64.wrap most) then r7 else (IntKind.u64.wrap most))))] <|
 deref b fun q12 =>
 lo cu q12 1 fun (x13 : Int) =>
 deref b fun q14 =>
 so q14 1 [.int .u64 (IntKind.u64.wrap (x13 + (if r7 < (IntKind.u64.wrap most) then r7 else (IntKind.u64.wrap most))))] <|
 J3 true) <|
 J3 y6) fun (y4 : Bool) =>
 ld cr ⟨n2, 0⟩ fun (x15 : Int × Int) =>
 st ⟨n1, 0⟩ (Ks.mk cr x15) <|
 ld cr ⟨n1, 0⟩ fun (x16 : Int × Int) =>
 R (x16, y4)
theorem call_buffer_Buffer_Take (b : Option Pt) (most : Int) (R : Rs.T [.agg [.int .u64, .int .u64], qb] → WP) (w : World) (h : W_buffer_Buffer_Take b most R w) : CW Tryz.prog N_buffer_Buffer_Take [vp b, vi most] [.agg [.int .u64, .int .u64], qb] R w := cs Tryz.func42 (.s .o (.s .o (.s .o (.j [(7, qb)] (.b (.l [(7, qb)] (.s (.s .o (.s .o .o)) (.b (.s .o (.s (.s .o (.s .o .o)) (.s (.d (.f 0 [0] (.f 4 [0] (.f 8 [8] (.f 1 [19] (.f 5 [23] (.f 2 [20] (.f 6 [24] (.f 3 [21] (.f 7 [25] (.f 9 [26, 27] (.f 10 [22, 28] (.w 11 [6, 29] (.w 12 [] .fin)))))))))))))) (.s .o .o)))))))) (.s .o .o))))) h (by kernel_rfl)
def W_buffer_Buffer_Unsent (b : Option Pt) (R : Rs.T [qu] → WP) : WP :=
 ite' b.isNone (
 R (0:Int)) <|
 drw <|
 deref b fun q1 =>
 deref b fun q2 =>
 ld cu q1 fun (x3 : Int) =>
 lo cu q2 1 fun (x4 : Int) =>
 R (IntKind.u64.wrap (x3 - x4))
theorem call_buffer_Buffer_Unsent (b : Option Pt) (R : Rs.T [qu] → WP) (w : World) (h : W_buffer_Buffer_Unsent b R w) : CW Tryz.prog N_buffer_Buffer_Unsent [vp b] [qu] R w := cs Tryz.func72 (.s .o (.s (.s .o (.s (.s .o .o) .o)) (.s (.d (.f 0 [0] (.f 4 [0] (.f 1 [5] (.f 5 [9] (.f 2 [6] (.f 6 [10] (.f 3 [7] (.f 7 [11] (.f 8 [8, 12] (.w 9 [13] .fin))))))))))) .o))) h (by kernel_rfl)
def W_buffer_Buffer_Write (b : Option Pt) (n : Int) (R : Rs.T [qi] → WP) : WP :=
 ite' b.isNone (
 R (2:Int)) <|
 ite' (decide (n < (1:Int))) (
 R (1:Int)) <|
 drw <|
 deref b fun q1 =>
 lo cu q1 3 fun (x2 : Int) =>
 call Tryz.prog N_buffer_Buffer_Held [vp b] [qu] fun (r3 : Int) =>
 ck q1 3 cu x2 <|
 ite' (decide ((IntKind.u64.wrap n) > (IntKind.u64.wrap (x2 - r3)))) (
 R (5:Int)) <|
 deref b fun q4 =>
 ld cu q4 fun (x5 : Int) =>
 deref b fun q6 =>
 st q6 [.int .u64 (IntKind.u64.wrap (x5 + (IntKind.u64.wrap n)))] <|
 R (0:Int)
theorem call_buffer_Buffer_Write (b : Option Pt) (n : Int) (R : Rs.T [qi] → WP) (w : World) (h : W_buffer_Buffer_Write b n R w) : CW Tryz.prog N_buffer_Buffer_Write [vp b, vi n] [qi] R w := cs Tryz.func38 (.s .o (.s (.b (.s .o (.s (.s .o .o) (.s .o (.s (.s .o .o) (.s (.d (.f 0 [1] (.f 2 [0] (.f 6 [0] (.f 1 [12] (.f 3 [14] (.f 4 [15] (.f 5 [16] (.w 7 [18] (.f 8 [17, 19] (.f 9 [13, 20] (.w 10 [21] .fin)))))))))))) (.s (.s .o .o) .o))))))) (.s .o (.s .o .o)))) h (by kernel_rfl)
def W_buffer_New (n : Int) (R : Rs.T [qp] → WP) : WP :=
 new [zu, zu, zu, .int .u64 (IntKind.u64.wrap (if (1073741824:Int) < (if (0:Int) > n then (0:Int) else n) then (1073741824:Int) else (if (0:Int) > n then (0:Int) else n)))] fun n1 =>
 R (some ⟨n1, 0⟩)
theorem call_buffer_New (n : Int) (R : Rs.T [qp] → WP) (w : World) (h : W_buffer_New n R w) : CW Tryz.prog N_buffer_New [vi n] [qp] R w := cs Tryz.func34 (.s .o (.s .o .o)) h (by kernel_rfl)
def W_canterlaw25_SockPlays (d : Int) (o : T_i4u2bi2) (a : Sl) (a' : Bool) (R : Rs.T [qb] → WP) : WP :=
 new (Ks.mk K_i4u2bi2 o) fun n1 =>
 join [] (fun J2 =>
 ite' (!a') (
 ld K_i4u2bi2 ⟨n1, 0⟩ fun (x4 : T_i4u2bi2) =>
 call Tryz.prog N_canterplay_Config [.agg (Ks.mk K_i4u2bi2 x4)] [.agg K_i4u2bi2] fun (r5 : T_i4u2bi2) =>
 st ⟨n1, 0⟩ (Ks.mk K_i4u2bi2 r5) <|
 J2 ()) <|
 J2 ()) fun (y3 : Unit) =>
 drw <|
 ld K_i4u2bi2 ⟨n1, 0⟩ fun (x6 : T_i4u2bi2) =>
 ld K_i4u2bi2 ⟨n1, 0⟩ fun (x7 : T_i4u2bi2) =>
 call Tryz.prog N_sock_New [vi d, .agg (Ks.mk K_i4u2bi2 x6)] [qp] fun (r8 : Option Pt) =>
 chk ⟨n1, 0⟩ (Ks.mk K_i4u2bi2 x7) <|
 call Tryz.prog N_canterref20_NewSock [vi d, .agg (Ks.mk K_i4u2bi2 x7)] [qp] fun (r9 : Option Pt) =>
 join [] (fun J10 =>
 call Tryz.prog N_canterlaw25_awake [] [qb] fun (r12 : Bool) =>
 ite' ((!r12) || r8.isNone) (
 R false) <|
 call Tryz.prog N_canterlaw25_alike [vp r8, vp r9] [qb] fun (r13 : Bool) =>
 ite' (!r13) (
 R false) <|
 J10 ()) fun (y11 : Unit) =>
 loop [.int .u64, .int .i64] ((0:Int), (0:Int)) fun J14 (y15 : Int × Int) =>
 ite' ((decide (y15.2 < ((a.len : Nat) : Int))) && (decide (y15.2 < (80:Int)))) (
 idx a y15.2 5 fun q16 =>
 ld K_i2u2s q16 fun (x17 : T_i2u2s) =>
 new [zi, zi, zu, zu, .sl ⟨none, 0, 0⟩] fun n18 =>
 st ⟨n18, 0⟩ (Ks.mk K_i2u2s x17) <|
 ld cl ⟨n18, 4⟩ fun (x19 : Sl) =>
 ite' (decide (((x19.len : Nat) : Int) > (8:Int))) (
 R true) <|
 ld cu ⟨n18, 2⟩ fun (x20 : Int) =>
 call Tryz.prog N_canterref01_Add [vu y15.1, vu x20] [qu] fun (r21 : Int) =>
 join cb (fun J22 =>
 ld ci ⟨n18, 0⟩ fun (x24 : Int) =>
 join cb (fun J25 =>
 ite' (x24 == (1:Int)) (
 J25 (x24 == (1:Int))) <|
 J25 (x24 == (2:Int))) fun (y26 : Bool) =>
 ite' y26 (
 call Tryz.prog N_sock_Sock_Emit [vp r8, .lf (.int .u64 (if (4611686018427387904:Int) < r21 then (4611686018427387904:Int) else r21))] [.agg K_iuiub, qi] fun (r27 : T_iuiub × Int) =>
 new [zi, zu, zi, zu, .bool false] fun n28 =>
 st ⟨n28, 0⟩ (Ks.mk K_iuiub r27.1) <|
 call Tryz.prog N_canterref20_Sock_Emit [vp r9, .lf (.int .u64 (if (4611686018427387904:Int) < r21 then (4611686018427387904:Int) else r21))] [.agg K_iuiub, qi] fun (r29 : T_iuiub × Int) =>
 new [zi, zu, zi, zu, .bool false] fun n30 =>
 st ⟨n30, 0⟩ (Ks.mk K_iuiub r29.1) <|
 ld K_iuiub ⟨n28, 0⟩ fun (x31 : T_iuiub) =>
 ld K_iuiub ⟨n30, 0⟩ fun (x32 : T_iuiub) =>
 J22 (((x31.1 == x32.1) && ((x31.2.1 == x32.2.1) && ((x31.2.2.1 == x32.2.2.1) && ((x31.2.2.2.1 == x32.2.2.2.1) && (x31.2.2.2.2 == x32.2.2.2.2))))) && (r27.2 == r29.2))) <|
 ite' (x24 == (3:Int)) (
 drw <|
 ld cu ⟨n18, 3⟩ fun (x33 : Int) =>
 ld cl ⟨n18, 4⟩ fun (x34 : Sl) =>
 ld cu ⟨n18, 3⟩ fun (x35 : Int) =>
 ld cl ⟨n18, 4⟩ fun (x36 : Sl) =>
 call Tryz.prog N_sock_Sock_Ack [vp r8, .lf (.int .u64 (if (4611686018427387904:Int) < r21 then (4611686018427387904:Int) else r21)), vu x33, .lf (.sl x34)] [qi] fun (r37 : Int) =>
 chk ⟨n18, 4⟩ (Ks.mk cl x36) <|
 chk ⟨n18, 3⟩ (Ks.mk cu x35) <|
 call Tryz.prog N_canterref20_Sock_Ack [vp r9, .lf (.int .u64 (if (4611686018427387904:Int) < r21 then (4611686018427387904:Int) else r21)), vu x35, .lf (.sl x36)] [qi] fun (r38 : Int) =>
 J22 (r37 == r38)) <|
 ite' (x24 == (4:Int)) (
 call Tryz.prog N_canterref20_Sock_Lose [vp r9, .lf (.int .u64 (if (4611686018427387904:Int) < r21 then (4611686018427387904:Int) else r21))] [] fun (r39 : Unit) =>
 call Tryz.prog N_sock_Sock_Lose [vp r8, .lf (.int .u64 (if (4611686018427387904:Int) < r21 then (4611686018427387904:Int) else r21))] [qi] fun (r40 : Int) =>
 J22 (r40 == (0:Int))) <|
 ite' (x24 == (5:Int)) (
 drw <|
 ld ci ⟨n18, 1⟩ fun (x41 : Int) =>
 ld ci ⟨n18, 1⟩ fun (x42 : Int) =>
 call Tryz.prog N_sock_Sock_Done [vp r8, vi x41] [qi] fun (r43 : Int) =>
 chk ⟨n18, 1⟩ (Ks.mk ci x42) <|
 call Tryz.prog N_canterref20_Sock_Done [vp r9, vi x42] [qi] fun (r44 : Int) =>
 J22 (r43 == r44)) <|
 drw <|
 ld ci ⟨n18, 1⟩ fun (x45 : Int) =>
 deref r9 fun q46 =>
 ld ci ⟨n18, 1⟩ fun (x47 : Int) =>
 call Tryz.prog N_sock_Sock_Write [vp r8, vi x45] [qi] fun (r48 : Int) =>
 chk ⟨n18, 1⟩ (Ks.mk ci x47) <|
 call Tryz.prog N_canterref04_Buffer_Write [.lf (.ptr (some ⟨q46.b, q46.o + 3⟩)), vi x47] [qi] fun (r49 : Int) =>
 J22 (r48 == r49)) fun (y23 : Bool) =>
 ite' (!y23) (
 R false) <|
 call Tryz.prog N_canterlaw25_alike [vp r8, vp r9] [qb] fun (r50 : Bool) =>
 ite' (!r50) (
 R false) <|
 J14 ((if (4611686018427387904:Int) < r21 then (4611686018427387904:Int) else r21), (IntKind.i64.wrap (y15.2 + (1:Int))))) <|
 R true
theorem call_canterlaw25_SockPlays (d : Int) (o : T_i4u2bi2) (a : Sl) (a' : Bool) (R : Rs.T [qb] → WP) (w : World) (h : W_canterlaw25_SockPlays d o a a' R w) : CW Tryz.prog N_canterlaw25_SockPlays [vi d, .agg (Ks.mk K_i4u2bi2 o), .lf (.sl a), .lf (.bool a')] [qb] R w := cs Tryz.func5 (.s .o (.j [] (.s .o (.s .o .o)) (.s (.d (.f 0 [0] (.f 1 [5] (.f 3 [0] (.f 4 [5] (.w 2 [23, 24] (.w 5 [26, 27] (.w 6 [25] (.w 7 [28] .fin))))))))) (.j [] (.s .o (.s (.s .o .o) .o)) (.s .o (.s (.s .o (.b (.l [(11, qu), (12, qi)] (.s (.s .o (.s .o .o)) (.s (.b (.s .o (.s (.s .o (.s (.s .o .o) .o)) (.s .o (.s .o (.j [(14, qb)] (.s .o (.b (.j [(77, qb)] (.s .o (.s .o .o)) (.s (.s .o (.s .o .o)) (.s .o (.s (.d (.f 0 [9] (.f 1 [11] (.f 2 [13] (.f 4 [13] (.f 7 [10] (.f 8 [11] (.f 9 [13] (.f 11 [13] (.f 3 [104] (.f 5 [106] (.f 10 [111] (.f 12 [113] (.w 6 [102, 103, 105, 107] (.w 13 [109, 110, 112, 114] (.f 14 [108, 115] (.w 15 [116] .fin))))))))))))))))) (.s .o (.s (.s .o .o) (.s .o (.s (.d (.f 0 [9] (.f 1 [13] (.f 4 [10] (.f 5 [13] (.f 2 [129] (.f 6 [133] (.w 3 [128, 130] (.w 7 [132, 134] (.f 8 [131, 135] (.w 9 [136] .fin))))))))))) (.d (.f 0 [9] (.f 1 [13] (.f 4 [10] (.f 7 [13] (.f 2 [67] (.f 5 [70] (.f 8 [73] (.f 6 [71] (.w 3 [66, 68] (.w 9 [72, 74] (.f 10 [69, 75] (.w 11 [76] .fin))))))))))))))))))))))) (.s .o (.s (.s .o .o) .o)))))))) .o))))) (.s .o .o))))))) h (by kernel_rfl)
def W_canterlaw25_alike (s : Option Pt) (w' : Option Pt) (R : Rs.T [qb] → WP) : WP :=
 drw <|
 deref w' fun q1 =>
 lo cu q1 21 fun (x2 : Int) =>
 call Tryz.prog N_sock_Sock_Out [vp s] [qu] fun (r3 : Int) =>
 ck q1 21 cu x2 <|
 ite' (r3 == x2) (
 deref w' fun q4 =>
 call Tryz.prog N_sock_Sock_Flight [vp s] [qu] fun (r5 : Int) =>
 call Tryz.prog N_canterref20_Board_Flight [.lf (.ptr (some ⟨q4.b, q4.o + 7⟩))] [qu] fun (r6 : Int) =>
 ite' (r5 == r6) (
 call Tryz.prog N_sock_Sock_Tso [vp s] [qi] fun (r7 : Int) =>
 call Tryz.prog N_canterref20_Sock_Tso [.lf (.ptr w')] [qi] fun (r8 : Int) =>
 ite' (r7 == r8) (
 deref w' fun q9 =>
 deref w' fun q10 =>
 lo cu q9 6 fun (x11 : Int) =>
 lo cu q10 5 fun (x12 : Int) =>
 call Tryz.prog N_sock_Sock_Unsent [vp s] [qu] fun (r13 : Int) =>
 ck q10 5 cu x12 <|
 ck q9 6 cu x11 <|
 ite' (r13 == (IntKind.u64.wrap (x11 - x12))) (
 deref w' fun q14 =>
 lo cp q14 20 fun (x15 : Option Pt) =>
 call Tryz.prog N_sock_Sock_Model [vp s] [.agg K_i2u6b2] fun (r16 : T_i2u6b2) =>
 ck q14 20 cp x15 <|
 call Tryz.prog N_canterref08_Model_State [vp x15] [.agg K_i2u6b2] fun (r17 : T_i2u6b2) =>
 R ((r16.1 == r17.1) && ((r16.2.1 == r17.2.1) && ((r16.2.2.1 == r17.2.2.1) && ((r16.2.2.2.1 == r17.2.2.2.1) && ((r16.2.2.2.2.1 == r17.2.2.2.2.1) && ((r16.2.2.2.2.2.1 == r17.2.2.2.2.2.1) && ((r16.2.2.2.2.2.2.1 == r17.2.2.2.2.2.2.1) && ((r16.2.2.2.2.2.2.2.1 == r17.2.2.2.2.2.2.2.1) && ((r16.2.2.2.2.2.2.2.2.1 == r17.2.2.2.2.2.2.2.2.1) && (r16.2.2.2.2.2.2.2.2.2 == r17.2.2.2.2.2.2.2.2.2))))))))))) <|
 R false) <|
 R false) <|
 R false) <|
 R false
theorem call_canterlaw25_alike (s : Option Pt) (w' : Option Pt) (R : Rs.T [qb] → WP) (w : World) (h : W_canterlaw25_alike s w' R w) : CW Tryz.prog N_canterlaw25_alike [vp s, .lf (.ptr w')] [qb] R w := cs Tryz.func25 (.s .o (.s (.d (.f 0 [0] (.f 2 [1] (.f 3 [7] (.f 4 [8] (.f 5 [9] (.w 1 [5] (.f 6 [6, 10] (.f 7 [11] (.f 8 [0, 12] (.f 10 [1, 12] (.f 11 [12, 15] (.f 12 [12, 16] (.w 9 [12, 13] (.w 13 [12, 17] (.f 14 [12, 14, 18] (.f 15 [12, 19] (.f 16 [20] (.f 17 [0, 21] (.f 19 [1, 21] (.w 18 [21, 22] (.w 20 [21, 24] (.f 21 [21, 23, 25] (.f 22 [21, 26] (.f 23 [27] (.f 24 [0, 28] (.f 26 [1, 28] (.f 31 [1, 28] (.f 27 [28, 31] (.f 32 [28, 36] (.f 28 [28, 32] (.f 33 [28, 37] (.f 29 [28, 33] (.f 34 [28, 38] (.f 30 [28, 34] (.f 35 [28, 39] (.f 36 [28, 35, 40] (.w 25 [28, 29] (.f 37 [28, 30, 41] (.f 38 [28, 42] (.f 39 [43] (.f 40 [0, 44] (.f 42 [1, 44] (.f 43 [44, 47] (.f 44 [44, 48] (.f 45 [44, 49] (.w 41 [44, 45] (.w 46 [44, 50] (.f 47 [44, 46, 51] (.f 48 [44, 52] (.w 49 [53] .fin))))))))))))))))))))))))))))))))))))))))))))))))))) .o)) h (by kernel_rfl)
def W_canterlaw25_awake  (R : Rs.T [qb] → WP) : WP :=
 call Tryz.prog N_canterref20_Plain [] [.agg K_i4u2bi2] fun (r1 : T_i4u2bi2) =>
 call Tryz.prog N_sock_New [.lf (.int .i64 (1:Int)), .agg (Ks.mk K_i4u2bi2 r1)] [qp] fun (r2 : Option Pt) =>
 join [] (fun J3 =>
 ite' r2.isNone (
 R false) <|
 call Tryz.prog N_sock_Sock_Write [vp r2, .lf (.int .i64 (100:Int))] [qi] fun (r5 : Int) =>
 ite' (r5 != (0:Int)) (
 R false) <|
 J3 ()) fun (y4 : Unit) =>
 call Tryz.prog N_sock_Sock_Emit [vp r2, .lf (.int .u64 (5:Int))] [.agg K_iuiub, qi] fun (r6 : T_iuiub × Int) =>
 new [zi, zu, zi, zu, .bool false] fun n7 =>
 st ⟨n7, 0⟩ (Ks.mk K_iuiub r6.1) <|
 ite' (r6.2 == (0:Int)) (
 ld K_iuiub ⟨n7, 0⟩ fun (x8 : T_iuiub) =>
 ite' ((x8.1 == (1:Int)) && ((x8.2.1 == (0:Int)) && ((x8.2.2.1 == (100:Int)) && ((x8.2.2.2.1 == (5:Int)) && (x8.2.2.2.2 == false))))) (
 call Tryz.prog N_sock_Sock_Out [vp r2] [qu] fun (r9 : Int) =>
 ite' (r9 == (100:Int)) (
 call Tryz.prog N_sock_Sock_Flight [vp r2] [qu] fun (r10 : Int) =>
 R (r10 == (100:Int))) <|
 R false) <|
 R false) <|
 R false
theorem call_canterlaw25_awake  (R : Rs.T [qb] → WP) (w : World) (h : W_canterlaw25_awake  R w) : CW Tryz.prog N_canterlaw25_awake [] [qb] R w := cs Tryz.func10 (.s .o (.s .o (.j [] (.s .o (.s (.s .o .o) .o)) (.s .o (.s .o .o))))) h (by kernel_rfl)
def W_canterplay_Config (d : T_i4u2bi2) (R : Rs.T [.agg K_i4u2bi2] → WP) : WP :=
 new (Ks.mk K_i4u2bi2 d) fun n1 =>
 new [zi, zi, zi, zi, zu, zu, .bool false, zi, zi] fun n2 =>
 call Tryz.prog N_canterref20_Plain [] [.agg K_i4u2bi2] fun (r3 : T_i4u2bi2) =>
 new [zi, zi, zi, zi, zu, zu, .bool false, zi, zi] fun n4 =>
 st ⟨n4, 0⟩ (Ks.mk K_i4u2bi2 r3) <|
 join [] (fun J5 =>
 join cb (fun J7 =>
 ld ci ⟨n1, 0⟩ fun (x9 : Int) =>
 ite' (decide (x9 ≥ (100:Int))) (
 ld ci ⟨n1, 0⟩ fun (x10 : Int) =>
 J7 (decide (x10 ≤ (65536:Int)))) <|
 J7 false) fun (y8 : Bool) =>
 ite' y8 (
 ld ci ⟨n1, 0⟩ fun (x11 : Int) =>
 st ⟨n4, 0⟩ [.int .i64 x11] <|
 J5 ()) <|
 J5 ()) fun (y6 : Unit) =>
 join [] (fun J12 =>
 join cb (fun J14 =>
 ld ci ⟨n1, 1⟩ fun (x16 : Int) =>
 ite' (decide (x16 ≥ (100:Int))) (
 ld ci ⟨n1, 1⟩ fun (x17 : Int) =>
 J14 (decide (x17 ≤ (65536:Int)))) <|
 J14 false) fun (y15 : Bool) =>
 ite' y15 (
 ld ci ⟨n1, 1⟩ fun (x18 : Int) =>
 st ⟨n4, 1⟩ [.int .i64 x18] <|
 J12 ()) <|
 J12 ()) fun (y13 : Unit) =>
 join [] (fun J19 =>
 join cb (fun J21 =>
 ld ci ⟨n1, 2⟩ fun (x23 : Int) =>
 ite' (decide (x23 ≥ (1:Int))) (
 ld ci ⟨n1, 2⟩ fun (x24 : Int) =>
 J21 (decide (x24 ≤ (512:Int)))) <|
 J21 false) fun (y22 : Bool) =>
 ite' y22 (
 ld ci ⟨n1, 2⟩ fun (x25 : Int) =>
 st ⟨n4, 2⟩ [.int .i64 x25] <|
 J19 ()) <|
 J19 ()) fun (y20 : Unit) =>
 join [] (fun J26 =>
 join cb (fun J28 =>
 ld ci ⟨n1, 3⟩ fun (x30 : Int) =>
 ite' (decide (x30 ≥ (1:Int))) (
 ld ci ⟨n1, 3⟩ fun (x31 : Int) =>
 J28 (decide (x31 ≤ (512:Int)))) <|
 J28 false) fun (y29 : Bool) =>
 ite' y29 (
 ld ci ⟨n1, 3⟩ fun (x32 : Int) =>
 st ⟨n4, 3⟩ [.int .i64 x32] <|
 J26 ()) <|
 J26 ()) fun (y27 : Unit) =>
 join [] (fun J33 =>
 ld cu ⟨n1, 4⟩ fun (x35 : Int) =>
 ite' (decide (x35 ≤ (4611686018427387904:Int))) (
 ld cu ⟨n1, 4⟩ fun (x36 : Int) =>
 st ⟨n4, 4⟩ [.int .u64 x36] <|
 J33 ()) <|
 J33 ()) fun (y34 : Unit) =>
 join [] (fun J37 =>
 join cb (fun J39 =>
 ld ci ⟨n1, 7⟩ fun (x41 : Int) =>
 ite' (decide (x41 ≥ (1:Int))) (
 ld ci ⟨n1, 7⟩ fun (x42 : Int) =>
 J39 (decide (x42 ≤ (1073741824:Int)))) <|
 J39 false) fun (y40 : Bool) =>
 ite' y40 (
 ld ci ⟨n1, 7⟩ fun (x43 : Int) =>
 st ⟨n4, 7⟩ [.int .i64 x43] <|
 J37 ()) <|
 J37 ()) fun (y38 : Unit) =>
 join [] (fun J44 =>
 join cb (fun J46 =>
 ld ci ⟨n1, 8⟩ fun (x48 : Int) =>
 ite' (decide (x48 ≥ (100:Int))) (
 ld ci ⟨n1, 8⟩ fun (x49 : Int) =>
 J46 (decide (x49 ≤ (9000:Int)))) <|
 J46 false) fun (y47 : Bool) =>
 ite' y47 (
 ld ci ⟨n1, 8⟩ fun (x50 : Int) =>
 st ⟨n4, 8⟩ [.int .i64 x50] <|
 J44 ()) <|
 J44 ()) fun (y45 : Unit) =>
 drw <|
 ld cu ⟨n1, 5⟩ fun (x51 : Int) =>
 ld cb ⟨n1, 6⟩ fun (x52 : Bool) =>
 st ⟨n4, 5⟩ [.int .u64 x51] <|
 chk ⟨n1, 6⟩ (Ks.mk cb x52) <|
 st ⟨n4, 6⟩ [.bool x52] <|
 ld K_i4u2bi2 ⟨n4, 0⟩ fun (x53 : T_i4u2bi2) =>
 st ⟨n2, 0⟩ (Ks.mk K_i4u2bi2 x53) <|
 ld K_i4u2bi2 ⟨n2, 0⟩ fun (x54 : T_i4u2bi2) =>
 R x54
theorem call_canterplay_Config (d : T_i4u2bi2) (R : Rs.T [.agg K_i4u2bi2] → WP) (w : World) (h : W_canterplay_Config d R w) : CW Tryz.prog N_canterplay_Config [.agg (Ks.mk K_i4u2bi2 d)] [.agg K_i4u2bi2] R w := cs Tryz.func18 (.s .o (.s .o (.j [] (.j [(12, qb)] .o (.s .o .o)) (.j [] (.j [(23, qb)] .o (.s .o .o)) (.j [] (.j [(34, qb)] .o (.s .o .o)) (.j [] (.j [(45, qb)] .o (.s .o .o)) (.j [] (.s .o (.s .o .o)) (.j [] (.j [(62, qb)] .o (.s .o .o)) (.j [] (.j [(73, qb)] .o (.s .o .o)) (.s (.d (.f 0 [1] (.f 2 [1] (.f 1 [77] (.f 3 [79] (.f 4 [3] (.w 5 [78, 81] (.f 6 [3] (.w 7 [80, 82] .fin))))))))) (.s .o .o))))))))))) h (by kernel_rfl)
def W_canterref01_Add (a : Int) (b : Int) (R : Rs.T [qu] → WP) : WP :=
 ite' (decide (a > (IntKind.u64.wrap ((18446744073709551615:Int) - b)))) (
 R (18446744073709551615:Int)) <|
 R (IntKind.u64.wrap (a + b))
theorem call_canterref01_Add (a : Int) (b : Int) (R : Rs.T [qu] → WP) (w : World) (h : W_canterref01_Add a b R w) : CW Tryz.prog N_canterref01_Add [vu a, vu b] [qu] R w := cs Tryz.func19 (.s .o (.s (.s .o (.s (.s .o .o) .o)) (.s .o .o))) h (by kernel_rfl)
def W_canterref01_Bdp (bw : Int) (rtt : Int) (gain : Int) (R : Rs.T [qu] → WP) : WP :=
 call Tryz.prog N_canterref01_MulDiv [vu bw, vu rtt, .lf (.int .u64 (1000000000:Int))] [qu] fun (r1 : Int) =>
 call Tryz.prog N_canterref01_MulDiv [vu r1, vu gain, .lf (.int .u64 (256:Int))] [qu] fun (r2 : Int) =>
 R r2
theorem call_canterref01_Bdp (bw : Int) (rtt : Int) (gain : Int) (R : Rs.T [qu] → WP) (w : World) (h : W_canterref01_Bdp bw rtt gain R w) : CW Tryz.prog N_canterref01_Bdp [vu bw, vu rtt, vu gain] [qu] R w := cs Tryz.func149 (.s .o (.s .o .o)) h (by kernel_rfl)
def W_canterref01_Delay (size : Int) (rate : Int) (R : Rs.T [qu] → WP) : WP :=
 ite' ((decide (size < (1:Int))) || (rate == (18446744073709551615:Int))) (
 R (0:Int)) <|
 call Tryz.prog N_canterref01_MulDiv [.lf (.int .u64 (IntKind.u64.wrap size)), .lf (.int .u64 (1000000000:Int)), vu rate] [qu] fun (r1 : Int) =>
 R (if (1000000000:Int) < r1 then (1000000000:Int) else r1)
theorem call_canterref01_Delay (size : Int) (rate : Int) (R : Rs.T [qu] → WP) (w : World) (h : W_canterref01_Delay size rate R w) : CW Tryz.prog N_canterref01_Delay [vi size, vu rate] [qu] R w := cs Tryz.func22 (.s .o (.s (.s .o (.s (.s .o .o) .o)) (.s .o .o))) h (by kernel_rfl)
def W_canterref01_Div (hi : Int) (lo : Int) (c : Int) (R : Rs.T [qu, qi] → WP) : WP :=
 ite' (c == (0:Int)) (
 R ((0:Int), (1:Int))) <|
 ite' (decide (hi ≥ c)) (
 R ((0:Int), (3:Int))) <|
 loop K_u3i (lo, (0:Int), hi, (0:Int)) fun J1 (y2 : T_u3i) =>
 ite' (decide (y2.2.2.2 < (64:Int))) (
 req (0 ≤ (63:Int)) <|
 req (0 ≤ (1:Int)) <|
 req (0 ≤ (63:Int)) <|
 req (0 ≤ (1:Int)) <|
 req (0 ≤ (1:Int)) <|
 ite' (((y2.2.2.1.fdiv (2 ^ min (63:Int).toNat IntKind.u64.bits)) == (1:Int)) || (decide ((IntKind.u64.wrap (BitVec.ofInt IntKind.u64.bits (IntKind.u64.wrap (y2.2.2.1 * 2 ^ min (1:Int).toNat IntKind.u64.bits)) ||| BitVec.ofInt IntKind.u64.bits (y2.1.fdiv (2 ^ min (63:Int).toNat IntKind.u64.bits))).toNat) ≥ c))) (
 J1 ((IntKind.u64.wrap (y2.1 * 2 ^ min (1:Int).toNat IntKind.u64.bits)), (IntKind.u64.wrap (BitVec.ofInt IntKind.u64.bits (IntKind.u64.wrap (y2.2.1 * 2 ^ min (1:Int).toNat IntKind.u64.bits)) ||| BitVec.ofInt IntKind.u64.bits (1:Int)).toNat), (IntKind.u64.wrap ((IntKind.u64.wrap (BitVec.ofInt IntKind.u64.bits (IntKind.u64.wrap (y2.2.2.1 * 2 ^ min (1:Int).toNat IntKind.u64.bits)) ||| BitVec.ofInt IntKind.u64.bits (y2.1.fdiv (2 ^ min (63:Int).toNat IntKind.u64.bits))).toNat) - c)), (IntKind.i64.wrap (y2.2.2.2 + (1:Int))))) <|
 J1 ((IntKind.u64.wrap (y2.1 * 2 ^ min (1:Int).toNat IntKind.u64.bits)), (IntKind.u64.wrap (y2.2.1 * 2 ^ min (1:Int).toNat IntKind.u64.bits)), (IntKind.u64.wrap (BitVec.ofInt IntKind.u64.bits (IntKind.u64.wrap (y2.2.2.1 * 2 ^ min (1:Int).toNat IntKind.u64.bits)) ||| BitVec.ofInt IntKind.u64.bits (y2.1.fdiv (2 ^ min (63:Int).toNat IntKind.u64.bits))).toNat), (IntKind.i64.wrap (y2.2.2.2 + (1:Int))))) <|
 R (y2.2.1, (0:Int))
theorem call_canterref01_Div (hi : Int) (lo : Int) (c : Int) (R : Rs.T [qu, qi] → WP) (w : World) (h : W_canterref01_Div hi lo c R w) : CW Tryz.prog N_canterref01_Div [vu hi, vu lo, vu c] [qu, qi] R w := cs Tryz.func52 (.s .o (.s (.s .o (.s (.s .o .o) .o)) (.s (.s .o (.s (.s .o .o) .o)) (.s .o (.s (.s .o (.b (.l [(1, qu), (8, qu), (9, qu), (10, qi)] (.s (.s .o (.s .o .o)) (.s (.b (.s .o (.s .o (.s .o (.s .o (.s .o (.s (.s .o .o) .o))))))) .o))))) (.s .o .o)))))) h (by kernel_rfl)
def W_canterref01_Limit (rate : Int) (tso : Int) (most : Int) (R : Rs.T [qu] → WP) : WP :=
 call Tryz.prog N_canterref01_Mul [.lf (.int .u64 (2:Int)), .lf (.int .u64 (IntKind.u64.wrap (if tso > (0:Int) then tso else (0:Int))))] [qu] fun (r1 : Int) =>
 R (if (if (IntKind.u64.wrap (if most > (0:Int) then most else (0:Int))) < (IntKind.u64.wrap (rate.tdiv (1024:Int))) then (IntKind.u64.wrap (if most > (0:Int) then most else (0:Int))) else (IntKind.u64.wrap (rate.tdiv (1024:Int)))) > r1 then (if (IntKind.u64.wrap (if most > (0:Int) then most else (0:Int))) < (IntKind.u64.wrap (rate.tdiv (1024:Int))) then (IntKind.u64.wrap (if most > (0:Int) then most else (0:Int))) else (IntKind.u64.wrap (rate.tdiv (1024:Int)))) else r1)
theorem call_canterref01_Limit (rate : Int) (tso : Int) (most : Int) (R : Rs.T [qu] → WP) (w : World) (h : W_canterref01_Limit rate tso most R w) : CW Tryz.prog N_canterref01_Limit [vu rate, vi tso, vi most] [qu] R w := cs Tryz.func33 (.s .o (.s .o .o)) h (by kernel_rfl)
def W_canterref01_Mul (a : Int) (b : Int) (R : Rs.T [qu] → WP) : WP :=
 ite' (decide (b > (0:Int))) (
 req (b ≠ 0) <|
 ite' (decide (a > (IntKind.u64.wrap ((18446744073709551615:Int).tdiv b)))) (
 R (18446744073709551615:Int)) <|
 R (IntKind.u64.wrap (a * b))) <|
 R (IntKind.u64.wrap (a * b))
theorem call_canterref01_Mul (a : Int) (b : Int) (R : Rs.T [qu] → WP) (w : World) (h : W_canterref01_Mul a b R w) : CW Tryz.prog N_canterref01_Mul [vu a, vu b] [qu] R w := cs Tryz.func73 (.s .o (.s (.s .o (.s (.s .o .o) .o)) (.s .o .o))) h (by kernel_rfl)
def W_canterref01_MulDiv (a : Int) (b : Int) (c : Int) (R : Rs.T [qu] → WP) : WP :=
 call Tryz.prog N_canterref01_Wide [vu a, vu b] [qu, qu] fun (r1 : Int × Int) =>
 ite' ((r1.1 == (0:Int)) && (r1.2 == (0:Int))) (
 R (0:Int)) <|
 call Tryz.prog N_canterref01_Div [vu r1.1, vu r1.2, vu c] [qu, qi] fun (r2 : Int × Int) =>
 ite' (r2.2 != (0:Int)) (
 R (18446744073709551615:Int)) <|
 R r2.1
theorem call_canterref01_MulDiv (a : Int) (b : Int) (c : Int) (R : Rs.T [qu] → WP) (w : World) (h : W_canterref01_MulDiv a b c R w) : CW Tryz.prog N_canterref01_MulDiv [vu a, vu b, vu c] [qu] R w := cs Tryz.func16 (.s .o (.s .o (.s (.s .o (.s (.s .o .o) .o)) (.s .o (.s (.s .o (.s (.s .o .o) .o)) (.s .o .o)))))) h (by kernel_rfl)
def W_canterref01_Rate (bw : Int) (gain : Int) (R : Rs.T [qu] → WP) : WP :=
 call Tryz.prog N_canterref01_MulDiv [vu bw, vu gain, .lf (.int .u64 (256:Int))] [qu] fun (r1 : Int) =>
 R r1
theorem call_canterref01_Rate (bw : Int) (gain : Int) (R : Rs.T [qu] → WP) (w : World) (h : W_canterref01_Rate bw gain R w) : CW Tryz.prog N_canterref01_Rate [vu bw, vu gain] [qu] R w := cs Tryz.func106 (.s .o (.s .o .o)) h (by kernel_rfl)
def W_canterref01_Size (rate : Int) (mss : Int) (R : Rs.T [qi] → WP) : WP :=
 req ((IntKind.u64.wrap (if (if (9000:Int) < mss then (9000:Int) else mss) > (100:Int) then (if (9000:Int) < mss then (9000:Int) else mss) else (100:Int))) ≠ 0) <|
 req ((if (if (9000:Int) < mss then (9000:Int) else mss) > (100:Int) then (if (9000:Int) < mss then (9000:Int) else mss) else (100:Int)) ≠ 0) <|
 R (IntKind.i64.wrap ((IntKind.i64.wrap (if (if (IntKind.u64.wrap (IntKind.i64.wrap ((65536:Int).tdiv (if (if (9000:Int) < mss then (9000:Int) else mss) > (100:Int) then (if (9000:Int) < mss then (9000:Int) else mss) else (100:Int))))) < (IntKind.u64.wrap ((IntKind.u64.wrap (rate.tdiv (1024:Int))).tdiv (IntKind.u64.wrap (if (if (9000:Int) < mss then (9000:Int) else mss) > (100:Int) then (if (9000:Int) < mss then (9000:Int) else mss) else (100:Int))))) then (IntKind.u64.wrap (IntKind.i64.wrap ((65536:Int).tdiv (if (if (9000:Int) < mss then (9000:Int) else mss) > (100:Int) then (if (9000:Int) < mss then (9000:Int) else mss) else (100:Int))))) else (IntKind.u64.wrap ((IntKind.u64.wrap (rate.tdiv (1024:Int))).tdiv (IntKind.u64.wrap (if (if (9000:Int) < mss then (9000:Int) else mss) > (100:Int) then (if (9000:Int) < mss then (9000:Int) else mss) else (100:Int)))))) > (2:Int) then (if (IntKind.u64.wrap (IntKind.i64.wrap ((65536:Int).tdiv (if (if (9000:Int) < mss then (9000:Int) else mss) > (100:Int) then (if (9000:Int) < mss then (9000:Int) else mss) else (100:Int))))) < (IntKind.u64.wrap ((IntKind.u64.wrap (rate.tdiv (1024:Int))).tdiv (IntKind.u64.wrap (if (if (9000:Int) < mss then (9000:Int) else mss) > (100:Int) then (if (9000:Int) < mss then (9000:Int) else mss) else (100:Int))))) then (IntKind.u64.wrap (IntKind.i64.wrap ((65536:Int).tdiv (if (if (9000:Int) < mss then (9000:Int) else mss) > (100:Int) then (if (9000:Int) < mss then (9000:Int) else mss) else (100:Int))))) else (IntKind.u64.wrap ((IntKind.u64.wrap (rate.tdiv (1024:Int))).tdiv (IntKind.u64.wrap (if (if (9000:Int) < mss then (9000:Int) else mss) > (100:Int) then (if (9000:Int) < mss then (9000:Int) else mss) else (100:Int)))))) else (2:Int))) * (if (if (9000:Int) < mss then (9000:Int) else mss) > (100:Int) then (if (9000:Int) < mss then (9000:Int) else mss) else (100:Int))))
theorem call_canterref01_Size (rate : Int) (mss : Int) (R : Rs.T [qi] → WP) (w : World) (h : W_canterref01_Size rate mss R w) : CW Tryz.prog N_canterref01_Size [vu rate, vi mss] [qi] R w := cs Tryz.func107 (.s .o (.s .o (.s .o (.s .o .o)))) h (by kernel_rfl)
def W_canterref01_Sub (a : Int) (b : Int) (R : Rs.T [qu] → WP) : WP :=
 ite' (decide (a < b)) (
 R (0:Int)) <|
 R (IntKind.u64.wrap (a - b))
theorem call_canterref01_Sub (a : Int) (b : Int) (R : Rs.T [qu] → WP) (w : World) (h : W_canterref01_Sub a b R w) : CW Tryz.prog N_canterref01_Sub [vu a, vu b] [qu] R w := cs Tryz.func111 (.s .o (.s (.s .o (.s (.s .o .o) .o)) (.s .o .o))) h (by kernel_rfl)
def W_canterref01_Wide (a : Int) (b : Int) (R : Rs.T [qu, qu] → WP) : WP :=
 req (0 ≤ (32:Int)) <|
 req (0 ≤ (32:Int)) <|
 req (0 ≤ (32:Int)) <|
 req (0 ≤ (32:Int)) <|
 req (0 ≤ (32:Int)) <|
 req (0 ≤ (32:Int)) <|
 req (0 ≤ (32:Int)) <|
 R ((IntKind.u64.wrap ((IntKind.u64.wrap ((IntKind.u64.wrap ((IntKind.u64.wrap ((a.fdiv (2 ^ min (32:Int).toNat IntKind.u64.bits)) * (b.fdiv (2 ^ min (32:Int).toNat IntKind.u64.bits)))) + ((IntKind.u64.wrap ((a.fdiv (2 ^ min (32:Int).toNat IntKind.u64.bits)) * (IntKind.u64.wrap (BitVec.ofInt IntKind.u64.bits b &&& BitVec.ofInt IntKind.u64.bits (4294967295:Int)).toNat))).fdiv (2 ^ min (32:Int).toNat IntKind.u64.bits)))) + ((IntKind.u64.wrap ((IntKind.u64.wrap (BitVec.ofInt IntKind.u64.bits a &&& BitVec.ofInt IntKind.u64.bits (4294967295:Int)).toNat) * (b.fdiv (2 ^ min (32:Int).toNat IntKind.u64.bits)))).fdiv (2 ^ min (32:Int).toNat IntKind.u64.bits)))) + ((IntKind.u64.wrap ((IntKind.u64.wrap (((IntKind.u64.wrap ((IntKind.u64.wrap (BitVec.ofInt IntKind.u64.bits a &&& BitVec.ofInt IntKind.u64.bits (4294967295:Int)).toNat) * (IntKind.u64.wrap (BitVec.ofInt IntKind.u64.bits b &&& BitVec.ofInt IntKind.u64.bits (4294967295:Int)).toNat))).fdiv (2 ^ min (32:Int).toNat IntKind.u64.bits)) + (IntKind.u64.wrap (BitVec.ofInt IntKind.u64.bits (IntKind.u64.wrap ((a.fdiv (2 ^ min (32:Int).toNat IntKind.u64.bits)) * (IntKind.u64.wrap (BitVec.ofInt IntKind.u64.bits b &&& BitVec.ofInt IntKind.u64.bits (4294967295:Int)).toNat))) &&& BitVec.ofInt IntKind.u64.bits (4294967295:Int)).toNat))) + (IntKind.u64.wrap (BitVec.ofInt IntKind.u64.bits (IntKind.u64.wrap ((IntKind.u64.wrap (BitVec.ofInt IntKind.u64.bits a &&& BitVec.ofInt IntKind.u64.bits (4294967295:Int)).toNat) * (b.fdiv (2 ^ min (32:Int).toNat IntKind.u64.bits)))) &&& BitVec.ofInt IntKind.u64.bits (4294967295:Int)).toNat))).fdiv (2 ^ min (32:Int).toNat IntKind.u64.bits)))), (IntKind.u64.wrap (BitVec.ofInt IntKind.u64.bits (IntKind.u64.wrap ((IntKind.u64.wrap ((IntKind.u64.wrap (((IntKind.u64.wrap ((IntKind.u64.wrap (BitVec.ofInt IntKind.u64.bits a &&& BitVec.ofInt IntKind.u64.bits (4294967295:Int)).toNat) * (IntKind.u64.wrap (BitVec.ofInt IntKind.u64.bits b &&& BitVec.ofInt IntKind.u64.bits (4294967295:Int)).toNat))).fdiv (2 ^ min (32:Int).toNat IntKind.u64.bits)) + (IntKind.u64.wrap (BitVec.ofInt IntKind.u64.bits (IntKind.u64.wrap ((a.fdiv (2 ^ min (32:Int).toNat IntKind.u64.bits)) * (IntKind.u64.wrap (BitVec.ofInt IntKind.u64.bits b &&& BitVec.ofInt IntKind.u64.bits (4294967295:Int)).toNat))) &&& BitVec.ofInt IntKind.u64.bits (4294967295:Int)).toNat))) + (IntKind.u64.wrap (BitVec.ofInt IntKind.u64.bits (IntKind.u64.wrap ((IntKind.u64.wrap (BitVec.ofInt IntKind.u64.bits a &&& BitVec.ofInt IntKind.u64.bits (4294967295:Int)).toNat) * (b.fdiv (2 ^ min (32:Int).toNat IntKind.u64.bits)))) &&& BitVec.ofInt IntKind.u64.bits (4294967295:Int)).toNat))) * 2 ^ min (32:Int).toNat IntKind.u64.bits)) ||| BitVec.ofInt IntKind.u64.bits (IntKind.u64.wrap (BitVec.ofInt IntKind.u64.bits (IntKind.u64.wrap ((IntKind.u64.wrap (BitVec.ofInt IntKind.u64.bits a &&& BitVec.ofInt IntKind.u64.bits (4294967295:Int)).toNat) * (IntKind.u64.wrap (BitVec.ofInt IntKind.u64.bits b &&& BitVec.ofInt IntKind.u64.bits (4294967295:Int)).toNat))) &&& BitVec.ofInt IntKind.u64.bits (4294967295:Int)).toNat)).toNat))
theorem call_canterref01_Wide (a : Int) (b : Int) (R : Rs.T [qu, qu] → WP) (w : World) (h : W_canterref01_Wide a b R w) : CW Tryz.prog N_canterref01_Wide [vu a, vu b] [qu, qu] R w := cs Tryz.func51 (.s .o (.s .o (.s .o (.s .o (.s .o (.s .o .o)))))) h (by kernel_rfl)
def W_canterref01_Window (bw : Int) (rtt : Int) (gain : Int) (tso : Int) (mss : Int) (R : Rs.T [qu] → WP) : WP :=
 ite' (rtt == (0:Int)) (
 call Tryz.prog N_canterref01_Mul [.lf (.int .u64 (10:Int)), vu mss] [qu] fun (r1 : Int) =>
 R r1) <|
 call Tryz.prog N_canterref01_Bdp [vu bw, vu rtt, vu gain] [qu] fun (r2 : Int) =>
 call Tryz.prog N_canterref01_Mul [.lf (.int .u64 (3:Int)), vu tso] [qu] fun (r3 : Int) =>
 call Tryz.prog N_canterref01_Add [vu r2, vu r3] [qu] fun (r4 : Int) =>
 call Tryz.prog N_canterref01_Mul [.lf (.int .u64 (4:Int)), vu mss] [qu] fun (r5 : Int) =>
 R (if r5 > r4 then r5 else r4)
theorem call_canterref01_Window (bw : Int) (rtt : Int) (gain : Int) (tso : Int) (mss : Int) (R : Rs.T [qu] → WP) (w : World) (h : W_canterref01_Window bw rtt gain tso mss R w) : CW Tryz.prog N_canterref01_Window [vu bw, vu rtt, vu gain, vu tso, vu mss] [qu] R w := cs Tryz.func154 (.s .o (.s (.s .o (.s (.s .o .o) .o)) (.s .o .o))) h (by kernel_rfl)
def W_canterref04_Buffer_Acked (b : Option Pt) (upto : Int) (R : Rs.T [qi] → WP) : WP :=
 deref b fun q1 =>
 lo cu q1 2 fun (x2 : Int) =>
 ite' (decide (upto > x2)) (
 R (11:Int)) <|
 deref b fun q3 =>
 lo cu q3 1 fun (x4 : Int) =>
 deref b fun q5 =>
 so q5 1 [.int .u64 (if upto > x4 then upto else x4)] <|
 R (0:Int)
theorem call_canterref04_Buffer_Acked (b : Option Pt) (upto : Int) (R : Rs.T [qi] → WP) (w : World) (h : W_canterref04_Buffer_Acked b upto R w) : CW Tryz.prog N_canterref04_Buffer_Acked [vp b, vu upto] [qi] R w := cs Tryz.func66 (.s .o (.s (.s .o (.s (.s .o .o) .o)) (.s .o (.s .o .o)))) h (by kernel_rfl)
def W_canterref04_Buffer_Take (b : Option Pt) (most : Int) (R : Rs.T [.agg [.int .u64, .int .u64], qb] → WP) : WP :=
 new [zu, zu] fun n1 =>
 join [] (fun J2 =>
 drw <|
 ite' (decide (most < (1:Int))) (
 st ⟨n1, 0⟩ [zu, zu] <|
 ld cr ⟨n1, 0⟩ fun (x4 : Int × Int) =>
 R (x4, false)) <|
 deref b fun q5 =>
 deref b fun q6 =>
 lo cu q5 2 fun (x7 : Int) =>
 lo cu q6 3 fun (x8 : Int) =>
 ite' (x7 == x8) (
 st ⟨n1, 0⟩ [zu, zu] <|
 ld cr ⟨n1, 0⟩ fun (x9 : Int × Int) =>
 R (x9, false)) <|
 J2 ()) fun (y3 : Unit) =>
 drw <|
 deref b fun q10 =>
 deref b fun q11 =>
 deref b fun q12 =>
 deref b fun q13 =>
 lo cu q10 2 fun (x14 : Int) =>
 lo cu q11 2 fun (x15 : Int) =>
 lo cu q12 3 fun (x16 : Int) =>
 lo cu q13 2 fun (x17 : Int) =>
 new [zu, zu] fun n18 =>
 ck q13 2 cu x17 <|
 ck q12 3 cu x16 <|
 ck q11 2 cu x15 <|
 ck q10 2 cu x14 <|
 st ⟨n18, 0⟩ [.int .u64 x14, .int .u64 (IntKind.u64.wrap (x15 + (if (IntKind.u64.wrap (x16 - x17)) < (IntKind.u64.wrap most) then (IntKind.u64.wrap (x16 - x17)) else (IntKind.u64.wrap most))))] <|
 ld cu ⟨n18, 1⟩ fun (x19 : Int) =>
 deref b fun q20 =>
 so q20 2 [.int .u64 x19] <|
 ld cr ⟨n18, 0⟩ fun (x21 : Int × Int) =>
 st ⟨n1, 0⟩ (Ks.mk cr x21) <|
 ld cr ⟨n1, 0⟩ fun (x22 : Int × Int) =>
 R (x22, true)
theorem call_canterref04_Buffer_Take (b : Option Pt) (most : Int) (R : Rs.T [.agg [.int .u64, .int .u64], qb] → WP) (w : World) (h : W_canterref04_Buffer_Take b most R w) : CW Tryz.prog N_canterref04_Buffer_Take [vp b, vi most] [.agg [.int .u64, .int .u64], qb] R w := cs Tryz.func63 (.s .o (.j [] (.s (.d (.f 0 [1] (.f 1 [7] (.f 2 [8] (.f 3 [0, 9] (.f 7 [0, 9] (.f 4 [9, 10] (.f 8 [9, 14] (.f 5 [9, 11] (.f 9 [9, 15] (.f 6 [9, 12] (.f 10 [9, 16] (.f 11 [9, 13, 17] (.f 12 [9, 18] .fin)))))))))))))) (.s (.s .o .o) .o)) (.s (.d (.f 0 [0] (.f 4 [0] (.f 8 [1] (.f 10 [0] (.f 14 [0] (.f 1 [21] (.f 5 [25] (.f 9 [29] (.f 11 [31] (.f 15 [35] (.f 2 [22] (.f 6 [26] (.f 12 [32] (.f 16 [36] (.f 3 [23] (.f 7 [27] (.f 13 [33] (.f 17 [37] (.f 18 [34, 38] (.f 19 [30, 39] (.f 20 [28, 40] (.f 21 [24, 41] (.w 22 [] (.w 23 [6, 42] .fin))))))))))))))))))))))))) (.s .o (.s .o .o))))) h (by kernel_rfl)
def W_canterref04_Buffer_Write (b : Option Pt) (n : Int) (R : Rs.T [qi] → WP) : WP :=
 ite' (decide (n < (1:Int))) (
 R (1:Int)) <|
 drw <|
 deref b fun q1 =>
 deref b fun q2 =>
 deref b fun q3 =>
 ld ci q1 fun (x4 : Int) =>
 lo cu q2 3 fun (x5 : Int) =>
 lo cu q3 1 fun (x6 : Int) =>
 ite' (decide ((IntKind.u64.wrap n) > (IntKind.u64.wrap ((IntKind.u64.wrap (if (if (1073741824:Int) < x4 then (1073741824:Int) else x4) > (0:Int) then (if (1073741824:Int) < x4 then (1073741824:Int) else x4) else (0:Int))) - (IntKind.u64.wrap (x5 - x6)))))) (
 R (5:Int)) <|
 deref b fun q7 =>
 lo cu q7 3 fun (x8 : Int) =>
 deref b fun q9 =>
 so q9 3 [.int .u64 (IntKind.u64.wrap (x8 + (IntKind.u64.wrap n)))] <|
 R (0:Int)
theorem call_canterref04_Buffer_Write (b : Option Pt) (n : Int) (R : Rs.T [qi] → WP) (w : World) (h : W_canterref04_Buffer_Write b n R w) : CW Tryz.prog N_canterref04_Buffer_Write [vp b, vi n] [qi] R w := cs Tryz.func30 (.s .o (.s (.s .o (.s (.s .o .o) .o)) (.s (.d (.f 0 [0] (.f 7 [0] (.f 11 [0] (.f 1 [8] (.f 8 [15] (.f 12 [19] (.f 2 [9] (.f 9 [16] (.f 13 [20] (.f 3 [10] (.f 10 [17] (.f 14 [21] (.f 4 [11] (.f 15 [18, 22] (.f 5 [12] (.f 6 [13] (.f 16 [14, 23] (.w 17 [24] .fin))))))))))))))))))) (.s (.s .o (.s (.s .o .o) .o)) (.s .o (.s .o .o)))))) h (by kernel_rfl)
def W_canterref08_Cycle_Gain (c : Option Pt) (R : Rs.T [qu] → WP) : WP :=
 deref c fun q1 =>
 ld ci q1 fun (x2 : Int) =>
 ite' (x2 == (0:Int)) (
 R (320:Int)) <|
 ite' (x2 == (1:Int)) (
 R (192:Int)) <|
 R (256:Int)
theorem call_canterref08_Cycle_Gain (c : Option Pt) (R : Rs.T [qu] → WP) (w : World) (h : W_canterref08_Cycle_Gain c R w) : CW Tryz.prog N_canterref08_Cycle_Gain [vp c] [qu] R w := cs Tryz.func153 (.s .o (.s (.s .o (.b (.s .o (.s (.s .o .o) (.s .o (.s (.s .o .o) .o)))))) (.s .o .o))) h (by kernel_rfl)
def W_canterref08_Cycle_Start (c : Option Pt) (now : Int) (phase : Int) (R : Rs.T [] → WP) : WP :=
 deref c fun q1 =>
 st q1 [.int .i64 (phase.tmod (8:Int))] <|
 deref c fun q2 =>
 so q2 1 [.int .u64 now] <|
 deref c fun q3 =>
 ld ci q3 fun (x4 : Int) =>
 ite' (decide (x4 < (0:Int))) (
 deref c fun q5 =>
 ld ci q5 fun (x6 : Int) =>
 deref c fun q7 =>
 st q7 [.int .i64 (IntKind.i64.wrap (x6 + (8:Int)))] <|
 R ()) <|
 R ()
theorem call_canterref08_Cycle_Start (c : Option Pt) (now : Int) (phase : Int) (R : Rs.T [] → WP) (w : World) (h : W_canterref08_Cycle_Start c now phase R w) : CW Tryz.prog N_canterref08_Cycle_Start [vp c, vu now, vi phase] [] R w := cs Tryz.func151 (.s .o (.s .o (.s .o .o))) h (by kernel_rfl)
def W_canterref08_Cycle_Update (c : Option Pt) (now : Int) (rtt : Int) (lost : Int) (flight : Int) (up : Int) (one : Int) (R : Rs.T [qb] → WP) : WP :=
 deref c fun q1 =>
 lo cu q1 1 fun (x2 : Int) =>
 call Tryz.prog N_canterref01_Sub [vu now, vu x2] [qu] fun (r3 : Int) =>
 join cb (fun J4 =>
 deref c fun q6 =>
 ld ci q6 fun (x7 : Int) =>
 ite' (x7 == (0:Int)) (
 J4 ((decide (r3 > rtt)) && ((decide (lost > (0:Int))) || (decide (flight ≥ up))))) <|
 ite' (x7 == (1:Int)) (
 J4 ((decide (r3 > rtt)) || (decide (flight ≤ one)))) <|
 J4 (decide (r3 > rtt))) fun (y5 : Bool) =>
 ite' y5 (
 deref c fun q8 =>
 ld ci q8 fun (x9 : Int) =>
 call Tryz.prog N_canterref08_Cycle_Start [vp c, vu now, .lf (.int .i64 (IntKind.i64.wrap (x9 + (1:Int))))] [] fun (r10 : Unit) =>
 R y5) <|
 R y5
theorem call_canterref08_Cycle_Update (c : Option Pt) (now : Int) (rtt : Int) (lost : Int) (flight : Int) (up : Int) (one : Int) (R : Rs.T [qb] → WP) (w : World) (h : W_canterref08_Cycle_Update c now rtt lost flight up one R w) : CW Tryz.prog N_canterref08_Cycle_Update [vp c, vu now, vu rtt, vu lost, vu flight, vu up, vu one] [qb] R w := cs Tryz.func148 (.s .o (.s .o (.j [(15, qb)] (.s .o (.b (.s .o (.s .o (.s .o (.s .o .o)))))) (.s (.s .o (.s .o .o)) (.s .o .o))))) h (by kernel_rfl)
def W_canterref08_Model_State (m : Option Pt) (R : Rs.T [.agg K_i2u6b2] → WP) : WP :=
 new [zi, zi, zu, zu, zu, zu, zu, zu, .bool false, .bool false] fun n1 =>
 drw <|
 deref m fun q2 =>
 deref m fun q3 =>
 deref m fun q4 =>
 deref m fun q5 =>
 deref m fun q6 =>
 deref m fun q7 =>
 deref m fun q8 =>
 deref m fun q9 =>
 deref m fun q10 =>
 lo ci q2 23 fun (x11 : Int) =>
 lo cu q3 24 fun (x12 : Int) =>
 lo cu q4 25 fun (x13 : Int) =>
 lo cu q6 26 fun (x14 : Int) =>
 lo cu q5 9 fun (x15 : Int) =>
 lo cu q7 2 fun (x16 : Int) =>
 lo ci q8 7 fun (x17 : Int) =>
 lo cb q9 6 fun (x18 : Bool) =>
 lo cb q10 15 fun (x19 : Bool) =>
 call Tryz.prog N_canterref08_Model_bw [vp m] [qu] fun (r20 : Int) =>
 ck q10 15 cb x19 <|
 ck q9 6 cb x18 <|
 ck q8 7 ci x17 <|
 ck q7 2 cu x16 <|
 ck q5 9 cu x15 <|
 ck q6 26 cu x14 <|
 ck q4 25 cu x13 <|
 ck q3 24 cu x12 <|
 ck q2 23 ci x11 <|
 st ⟨n1, 0⟩ [.int .i64 x11, .int .i64 x17, .int .u64 x12, .int .u64 x13, .int .u64 r20, .int .u64 x15, .int .u64 x14, .int .u64 x16, .bool x18, .bool x19] <|
 ld K_i2u6b2 ⟨n1, 0⟩ fun (x21 : T_i2u6b2) =>
 R x21
theorem call_canterref08_Model_State (m : Option Pt) (R : Rs.T [.agg K_i2u6b2] → WP) (w : World) (h : W_canterref08_Model_State m R w) : CW Tryz.prog N_canterref08_Model_State [vp m] [.agg K_i2u6b2] R w := cs Tryz.func58 (.s .o (.s (.d (.f 0 [0] (.f 4 [0] (.f 8 [0] (.f 12 [0] (.f 14 [0] (.f 19 [0] (.f 23 [0] (.f 28 [0] (.f 33 [0] (.f 38 [0] (.f 1 [3] (.f 5 [7] (.f 9 [11] (.f 15 [17] (.f 20 [22] (.f 24 [26] (.f 29 [31] (.f 34 [36] (.f 39 [41] (.f 2 [4] (.f 6 [8] (.f 10 [12] (.f 16 [18] (.f 21 [23] (.f 25 [27] (.f 30 [32] (.f 35 [37] (.f 40 [42] (.f 3 [5] (.f 7 [9] (.f 11 [13] (.f 17 [19] (.f 22 [24] (.f 26 [28] (.f 31 [33] (.f 36 [38] (.f 41 [43] (.f 18 [20] (.f 27 [29] (.f 32 [34] (.f 37 [39] (.f 42 [44] (.w 13 [15] (.f 43 [6, 10, 14, 16, 21, 25, 30, 35, 40, 45] (.w 44 [2, 46] .fin)))))))))))))))))))))))))))))))))))))))))))))) .o)) h (by kernel_rfl)
def W_canterref08_Model_Update (d : Option Pt) (o : T_u8b) (a : Int) (R : Rs.T [.agg K_i2u6b2] → WP) : WP :=
 new (Ks.mk K_u8b o) fun n1 =>
 new [zi, zi, zu, zu, zu, zu, zu, zu, .bool false, .bool false] fun n2 =>
 drw <|
 ld K_u8b ⟨n1, 0⟩ fun (x3 : T_u8b) =>
 deref d fun q4 =>
 call Tryz.prog N_canterref08_Rounds_Update [.lf (.ptr (some ⟨q4.b, q4.o + 2⟩)), .agg (Ks.mk K_u8b x3)] [qb] fun (r5 : Bool) =>
 drw <|
 ld K_u8b ⟨n1, 0⟩ fun (x6 : T_u8b) =>
 deref d fun q7 =>
 call Tryz.prog N_canterref08_Policer_Update [.lf (.ptr (some ⟨q7.b, q7.o + 15⟩)), .lf (.bool r5), .agg (Ks.mk K_u8b x6)] [] fun (r8 : Unit) =>
 join [] (fun J9 =>
 join cb (fun J11 =>
 ld cu ⟨n1, 5⟩ fun (x13 : Int) =>
 ite' (decide (x13 > (0:Int))) (
 ld cu ⟨n1, 3⟩ fun (x14 : Int) =>
 J11 (decide (x14 > (0:Int)))) <|
 J11 false) fun (y12 : Bool) =>
 ite' y12 (
 drw <|
 ld cu ⟨n1, 1⟩ fun (x15 : Int) =>
 ld cu ⟨n1, 2⟩ fun (x16 : Int) =>
 ld cu ⟨n1, 3⟩ fun (x17 : Int) =>
 call Tryz.prog N_canterref01_Sub [vu x15, vu x16] [qu] fun (r18 : Int) =>
 chk ⟨n1, 3⟩ (Ks.mk cu x17) <|
 call Tryz.prog N_canterref01_MulDiv [vu r18, .lf (.int .u64 (1000000000:Int)), vu x17] [qu] fun (r19 : Int) =>
 join cb (fun J20 =>
 ld cb ⟨n1, 8⟩ fun (x22 : Bool) =>
 ite' (!x22) (
 J20 true) <|
 deref d fun q23 =>
 lo cp q23 1 fun (x24 : Option Pt) =>
 deref x24 fun q25 =>
 req (0 ≤ (0:Int) ∧ (0:Int) < 3) <|
 ld cu ⟨q25.b, q25.o + 4 + (0:Int).toNat * 1⟩ fun (x26 : Int) =>
 J20 (decide (r19 ≥ x26))) fun (y21 : Bool) =>
 ite' y21 (
 drw <|
 deref d fun q27 =>
 deref d fun q28 =>
 lo cp q27 1 fun (x29 : Option Pt) =>
 lo cu q28 2 fun (x30 : Int) =>
 call Tryz.prog N_canterref08_Win_Update [vp x29, vu x30, vu r19] [qu] fun (r31 : Int) =>
 J9 ()) <|
 J9 ()) <|
 J9 ()) fun (y10 : Unit) =>
 ld K_u8b ⟨n1, 0⟩ fun (x32 : T_u8b) =>
 call Tryz.prog N_canterref08_Model_modes [vp d, .agg (Ks.mk K_u8b x32), .lf (.bool r5)] [] fun (r33 : Unit) =>
 call Tryz.prog N_canterref08_Model_gains [vp d] [qu, qu] fun (r34 : Int × Int) =>
 deref d fun q35 =>
 so q35 26 [.int .u64 r34.1] <|
 join [] (fun J36 =>
 call Tryz.prog N_canterref08_Model_bw [vp d] [qu] fun (r38 : Int) =>
 ite' (decide (r38 > (0:Int))) (
 call Tryz.prog N_canterref08_Model_bw [vp d] [qu] fun (r39 : Int) =>
 call Tryz.prog N_canterref01_Rate [vu r39, vu r34.1] [qu] fun (r40 : Int) =>
 join cb (fun J41 =>
 deref d fun q43 =>
 lo cb q43 6 fun (x44 : Bool) =>
 ite' x44 (
 J41 true) <|
 deref d fun q45 =>
 lo cu q45 24 fun (x46 : Int) =>
 J41 (decide ((if r40 > (1:Int) then r40 else (1:Int)) > x46))) fun (y42 : Bool) =>
 ite' y42 (
 deref d fun q47 =>
 so q47 24 [.int .u64 (if r40 > (1:Int) then r40 else (1:Int))] <|
 J36 ()) <|
 J36 ()) <|
 J36 ()) fun (y37 : Unit) =>
 ld K_u8b ⟨n1, 0⟩ fun (x48 : T_u8b) =>
 call Tryz.prog N_canterref08_Model_recover [vp d, .agg (Ks.mk K_u8b x48), .lf (.bool r5)] [] fun (r49 : Unit) =>
 ld K_u8b ⟨n1, 0⟩ fun (x50 : T_u8b) =>
 call Tryz.prog N_canterref08_Model_window [vp d, .agg (Ks.mk K_u8b x50), vu a, vu r34.2] [] fun (r51 : Unit) =>
 call Tryz.prog N_canterref08_Model_State [vp d] [.agg K_i2u6b2] fun (r52 : T_i2u6b2) =>
 st ⟨n2, 0⟩ (Ks.mk K_i2u6b2 r52) <|
 ld K_i2u6b2 ⟨n2, 0⟩ fun (x53 : T_i2u6b2) =>
 R x53
theorem call_canterref08_Model_Update (d : Option Pt) (o : T_u8b) (a : Int) (R : Rs.T [.agg K_i2u6b2] → WP) (w : World) (h : W_canterref08_Model_Update d o a R w) : CW Tryz.prog N_canterref08_Model_Update [vp d, .agg (Ks.mk K_u8b o), vu a] [.agg K_i2u6b2] R w := cs Tryz.func68 (.s .o (.s (.d (.f 0 [0] (.f 3 [4] (.f 1 [12] (.f 2 [13] (.w 4 [14, 15] (.w 5 [16] .fin))))))) (.s (.d (.f 0 [0] (.f 3 [7] (.f 4 [4] (.f 1 [17] (.f 2 [18] (.w 5 [19, 20, 21] .fin))))))) (.j [] (.j [(30, qb)] .o (.s (.s (.d (.f 0 [4] (.f 2 [4] (.f 5 [4] (.f 1 [31] (.f 3 [33] (.f 6 [36] (.w 4 [32, 34] (.w 7 [35, 37] (.w 8 [38] .fin)))))))))) (.j [(53, qb)] .o (.s (.d (.f 0 [0] (.f 4 [0] (.f 9 [8] (.f 1 [54] (.f 5 [58] (.f 2 [55] (.f 6 [59] (.f 3 [56] (.f 7 [60] (.f 8 [61] (.w 10 [57, 62, 63] .fin)))))))))))) .o))) .o)) (.s .o (.s .o (.s .o (.j [] (.s .o (.s (.s .o (.j [(98, qb)] .o (.s .o .o))) .o)) (.s .o (.s .o (.s .o .o))))))))))) h (by kernel_rfl)
def W_canterref08_Model_bw (m : Option Pt) (R : Rs.T [qu] → WP) : WP :=
 deref m fun q1 =>
 lo cb q1 15 fun (x2 : Bool) =>
 ite' x2 (
 deref m fun q3 =>
 lo cu q3 17 fun (x4 : Int) =>
 R x4) <|
 deref m fun q5 =>
 lo cp q5 1 fun (x6 : Option Pt) =>
 deref x6 fun q7 =>
 req (0 ≤ (0:Int) ∧ (0:Int) < 3) <|
 ld cu ⟨q7.b, q7.o + 4 + (0:Int).toNat * 1⟩ fun (x8 : Int) =>
 R x8
theorem call_canterref08_Model_bw (m : Option Pt) (R : Rs.T [qu] → WP) (w : World) (h : W_canterref08_Model_bw m R w) : CW Tryz.prog N_canterref08_Model_bw [vp m] [qu] R w := cs Tryz.func108 (.s .o (.s (.s .o (.s (.s .o .o) .o)) (.s .o .o))) h (by kernel_rfl)
def W_canterref08_Model_gains (m : Option Pt) (R : Rs.T [qu, qu] → WP) : WP :=
 deref m fun q1 =>
 lo ci q1 23 fun (x2 : Int) =>
 ite' (x2 == (0:Int)) (
 R ((739:Int), (739:Int))) <|
 ite' (x2 == (1:Int)) (
 R ((88:Int), (739:Int))) <|
 ite' (x2 == (2:Int)) (
 deref m fun q3 =>
 lo cb q3 15 fun (x4 : Bool) =>
 ite' x4 (
 R ((256:Int), (512:Int))) <|
 deref m fun q5 =>
 call Tryz.prog N_canterref08_Cycle_Gain [.lf (.ptr (some ⟨q5.b, q5.o + 7⟩))] [qu] fun (r6 : Int) =>
 R (r6, (512:Int))) <|
 R ((256:Int), (256:Int))
theorem call_canterref08_Model_gains (m : Option Pt) (R : Rs.T [qu, qu] → WP) (w : World) (h : W_canterref08_Model_gains m R w) : CW Tryz.prog N_canterref08_Model_gains [vp m] [qu, qu] R w := cs Tryz.func116 (.s .o (.s (.s .o (.b (.s .o (.s (.s .o .o) (.s .o (.s (.s .o .o) (.s .o (.s (.s (.s .o (.s (.s .o .o) .o)) (.s .o .o)) .o)))))))) (.s .o .o))) h (by kernel_rfl)
def W_canterref08_Model_modes (d : Option Pt) (o : T_u8b) (a : Bool) (R : Rs.T [] → WP) : WP :=
 new (Ks.mk K_u8b o) fun n1 =>
 deref d fun q2 =>
 lo cu q2 9 fun (x3 : Int) =>
 join [] (fun J4 =>
 join cb (fun J6 =>
 deref d fun q8 =>
 lo ci q8 23 fun (x9 : Int) =>
 ite' (x9 == (2:Int)) (
 deref d fun q10 =>
 lo cb q10 15 fun (x11 : Bool) =>
 J6 (!x11)) <|
 J6 false) fun (y7 : Bool) =>
 ite' y7 (
 drw <|
 deref d fun q12 =>
 ld cu ⟨n1, 0⟩ fun (x13 : Int) =>
 ld cu ⟨n1, 6⟩ fun (x14 : Int) =>
 ld cu ⟨n1, 7⟩ fun (x15 : Int) =>
 call Tryz.prog N_canterref08_Model_bw [vp d] [qu] fun (r16 : Int) =>
 chk ⟨n1, 7⟩ (Ks.mk cu x15) <|
 chk ⟨n1, 6⟩ (Ks.mk cu x14) <|
 chk ⟨n1, 0⟩ (Ks.mk cu x13) <|
 call Tryz.prog N_canterref01_Bdp [vu r16, vu x3, .lf (.int .u64 (320:Int))] [qu] fun (r17 : Int) =>
 chk ⟨n1, 7⟩ (Ks.mk cu x15) <|
 chk ⟨n1, 6⟩ (Ks.mk cu x14) <|
 chk ⟨n1, 0⟩ (Ks.mk cu x13) <|
 call Tryz.prog N_canterref08_Model_bw [vp d] [qu] fun (r18 : Int) =>
 chk ⟨n1, 7⟩ (Ks.mk cu x15) <|
 chk ⟨n1, 6⟩ (Ks.mk cu x14) <|
 chk ⟨n1, 0⟩ (Ks.mk cu x13) <|
 call Tryz.prog N_canterref01_Bdp [vu r18, vu x3, .lf (.int .u64 (256:Int))] [qu] fun (r19 : Int) =>
 chk ⟨n1, 7⟩ (Ks.mk cu x15) <|
 chk ⟨n1, 6⟩ (Ks.mk cu x14) <|
 chk ⟨n1, 0⟩ (Ks.mk cu x13) <|
 call Tryz.prog N_canterref08_Cycle_Update [.lf (.ptr (some ⟨q12.b, q12.o + 7⟩)), vu x13, vu x3, vu x14, vu x15, vu r17, vu r19] [qb] fun (r20 : Bool) =>
 J4 ()) <|
 J4 ()) fun (y5 : Unit) =>
 drw <|
 deref d fun q21 =>
 ld cb ⟨n1, 8⟩ fun (x22 : Bool) =>
 deref d fun q23 =>
 lo cp q23 1 fun (x24 : Option Pt) =>
 deref x24 fun q25 =>
 req (0 ≤ (0:Int) ∧ (0:Int) < 3) <|
 ld cu ⟨q25.b, q25.o + 4 + (0:Int).toNat * 1⟩ fun (x26 : Int) =>
 call Tryz.prog N_canterref08_Pipe_Update [.lf (.ptr (some ⟨q21.b, q21.o + 4⟩)), .lf (.bool a), .lf (.bool x22), vu x26] [qb] fun (r27 : Bool) =>
 join [] (fun J28 =>
 join cb (fun J30 =>
 deref d fun q32 =>
 lo ci q32 23 fun (x33 : Int) =>
 ite' (x33 == (0:Int)) (
 deref d fun q34 =>
 lo cb q34 6 fun (x35 : Bool) =>
 J30 x35) <|
 J30 false) fun (y31 : Bool) =>
 ite' y31 (
 deref d fun q36 =>
 so q36 23 [.int .i64 (1:Int)] <|
 J28 ()) <|
 J28 ()) fun (y29 : Unit) =>
 join [] (fun J37 =>
 join cb (fun J39 =>
 drw <|
 deref d fun q41 =>
 lo ci q41 23 fun (x42 : Int) =>
 ite' (x42 == (1:Int)) (
 ite' (decide (x3 > (0:Int))) (
 ld cu ⟨n1, 7⟩ fun (x43 : Int) =>
 call Tryz.prog N_canterref08_Model_bw [vp d] [qu] fun (r44 : Int) =>
 chk ⟨n1, 7⟩ (Ks.mk cu x43) <|
 call Tryz.prog N_canterref01_Bdp [vu r44, vu x3, .lf (.int .u64 (256:Int))] [qu] fun (r45 : Int) =>
 chk ⟨n1, 7⟩ (Ks.mk cu x43) <|
 J39 (decide (x43 ≤ r45))) <|
 J39 false) <|
 J39 false) fun (y40 : Bool) =>
 ite' y40 (
 deref d fun q46 =>
 so q46 23 [.int .i64 (2:Int)] <|
 drw <|
 deref d fun q47 =>
 ld cu ⟨n1, 0⟩ fun (x48 : Int) =>
 call Tryz.prog N_canterref08_Cycle_Start [.lf (.ptr (some ⟨q47.b, q47.o + 7⟩)), vu x48, .lf (.int .i64 (2:Int))] [] fun (r49 : Unit) =>
 J37 ()) <|
 J37 ()) fun (y38 : Unit) =>
 drw <|
 deref d fun q50 =>
 ld cu ⟨n1, 0⟩ fun (x51 : Int) =>
 ld cu ⟨n1, 4⟩ fun (x52 : Int) =>
 ld cu ⟨n1, 7⟩ fun (x53 : Int) =>
 deref d fun q54 =>
 ld cu q54 fun (x55 : Int) =>
 call Tryz.prog N_canterref08_Probe_Update [.lf (.ptr (some ⟨q50.b, q50.o + 9⟩)), vu x51, vu x52, .lf (.bool a), vu x53, .lf (.int .u64 (IntKind.u64.wrap ((4:Int) * x55)))] [qb, qb] fun (r56 : Bool × Bool) =>
 join [] (fun J57 =>
 ite' r56.1 (
 drw <|
 deref d fun q59 =>
 deref d fun q60 =>
 lo cu q59 30 fun (x61 : Int) =>
 lo cu q60 25 fun (x62 : Int) =>
 deref d fun q63 =>
 so q63 30 [.int .u64 (if x62 > x61 then x62 else x61)] <|
 deref d fun q64 =>
 so q64 23 [.int .i64 (3:Int)] <|
 J57 ()) <|
 J57 ()) fun (y58 : Unit) =>
 ite' r56.2 (
 drw <|
 deref d fun q65 =>
 deref d fun q66 =>
 lo cu q65 25 fun (x67 : Int) =>
 lo cu q66 30 fun (x68 : Int) =>
 deref d fun q69 =>
 so q69 25 [.int .u64 (if x68 > x67 then x68 else x67)] <|
 deref d fun q70 =>
 so q70 30 [zu] <|
 deref d fun q71 =>
 so q71 23 [zi] <|
 deref d fun q72 =>
 lo cb q72 6 fun (x73 : Bool) =>
 ite' x73 (
 deref d fun q74 =>
 so q74 23 [.int .i64 (2:Int)] <|
 drw <|
 deref d fun q75 =>
 ld cu ⟨n1, 0⟩ fun (x76 : Int) =>
 call Tryz.prog N_canterref08_Cycle_Start [.lf (.ptr (some ⟨q75.b, q75.o + 7⟩)), vu x76, .lf (.int .i64 (2:Int))] [] fun (r77 : Unit) =>
 R ()) <|
 R ()) <|
 R ()
theorem call_canterref08_Model_modes (d : Option Pt) (o : T_u8b) (a : Bool) (R : Rs.T [] → WP) (w : World) (h : W_canterref08_Model_modes d o a R w) : CW Tryz.prog N_canterref08_Model_modes [vp d, .agg (Ks.mk K_u8b o), .lf (.bool a)] [] R w := cs Tryz.func115 (.s .o (.s .o (.j [] (.j [(26, qb)] .o (.s (.d (.f 0 [0] (.f 3 [4] (.f 5 [6] (.f 6 [4] (.f 8 [4] (.f 10 [0] (.f 12 [6] (.f 14 [0] (.f 16 [6] (.f 1 [27] (.f 4 [30] (.f 7 [33] (.f 9 [35] (.f 2 [28] (.w 11 [37] (.w 13 [38, 39] (.w 15 [41] (.w 17 [42, 43] (.w 18 [29, 31, 32, 34, 36, 40, 44] .fin)))))))))))))))))))) .o)) (.s (.d (.f 0 [0] (.f 3 [2] (.f 4 [4] (.f 6 [0] (.f 1 [46] (.f 5 [50] (.f 7 [52] (.f 2 [47] (.f 8 [53] (.f 9 [54] (.f 10 [55] (.f 11 [56] (.f 12 [57] (.f 13 [58] (.w 14 [48, 49, 51, 59] .fin)))))))))))))))) (.j [] (.j [(72, qb)] .o (.s .o .o)) (.j [] (.j [(93, qb)] (.d (.f 0 [0] (.f 1 [76] (.f 2 [77] (.f 3 [78] (.f 4 [79] (.f 5 [80] (.f 6 [6, 81] (.f 7 [81, 82] (.f 8 [81, 83] (.f 9 [84] (.f 10 [4, 85] (.f 12 [0, 85] (.f 14 [6, 85] (.f 11 [85, 86] (.w 13 [85, 88] (.w 15 [85, 89, 90] (.f 16 [85, 87, 91] (.f 17 [85, 92] .fin))))))))))))))))))) (.s (.s .o (.d (.f 0 [0] (.f 3 [4] (.f 1 [97] (.f 4 [100] (.f 2 [98] (.w 5 [99, 101] .fin)))))))) .o)) (.s (.d (.f 0 [0] (.f 3 [4] (.f 5 [4] (.f 7 [2] (.f 8 [4] (.f 10 [0] (.f 1 [104] (.f 4 [107] (.f 6 [109] (.f 9 [112] (.f 11 [114] (.f 2 [105] (.f 12 [115] (.f 13 [116] (.f 14 [117] (.w 15 [106, 108, 110, 111, 113, 118] (.f 16 [119] (.f 17 [103] (.f 18 [103] (.w 19 [120] (.w 20 [121] .fin)))))))))))))))))))))) (.j [] (.s .o (.s (.d (.f 0 [0] (.f 1 [0] (.f 2 [0] (.f 6 [0] (.f 3 [125] (.f 7 [129] (.f 4 [126] (.f 8 [130] (.f 5 [127] (.f 9 [131] (.f 10 [128, 132] (.f 11 [123] (.f 12 [134] (.w 13 [133, 135] (.f 14 [124] (.f 15 [136] (.w 16 [137] .fin)))))))))))))))))) .o)) (.s .o (.s (.s (.d (.f 0 [0] (.f 1 [0] (.f 2 [0] (.f 3 [0] (.f 7 [0] (.f 4 [142] (.f 8 [146] (.f 5 [143] (.f 9 [147] (.f 6 [144] (.f 10 [148] (.f 11 [145, 149] (.f 12 [139] (.f 13 [151] (.w 14 [150, 152] (.f 15 [140] (.f 16 [153] (.w 17 [154] (.f 18 [141] (.f 19 [155] (.w 20 [156] .fin)))))))))))))))))))))) (.s .o (.s (.s .o (.d (.f 0 [0] (.f 3 [4] (.f 1 [165] (.f 4 [168] (.f 2 [166] (.w 5 [167, 169] .fin)))))))) .o))) .o)))))))))) h (by kernel_rfl)
def W_canterref08_Model_recover (d : Option Pt) (o : T_u8b) (a : Bool) (R : Rs.T [] → WP) : WP :=
 new (Ks.mk K_u8b o) fun n1 =>
 join cb (fun J2 =>
 ld cu ⟨n1, 6⟩ fun (x4 : Int) =>
 ite' (decide (x4 > (0:Int))) (
 deref d fun q5 =>
 lo cb q5 27 fun (x6 : Bool) =>
 J2 (!x6)) <|
 J2 false) fun (y3 : Bool) =>
 ite' y3 (
 deref d fun q7 =>
 so q7 27 [.bool true] <|
 deref d fun q8 =>
 so q8 28 [.bool true] <|
 drw <|
 ld cu ⟨n1, 1⟩ fun (x9 : Int) =>
 ld cu ⟨n1, 7⟩ fun (x10 : Int) =>
 deref d fun q11 =>
 deref d fun q12 =>
 lo cu q11 30 fun (x13 : Int) =>
 lo cu q12 25 fun (x14 : Int) =>
 call Tryz.prog N_canterref01_Add [vu x9, vu x10] [qu] fun (r15 : Int) =>
 ck q12 25 cu x14 <|
 ck q11 30 cu x13 <|
 deref d fun q16 =>
 so q16 29 [.int .u64 r15] <|
 deref d fun q17 =>
 so q17 30 [.int .u64 (if x14 > x13 then x14 else x13)] <|
 R ()) <|
 deref d fun q18 =>
 lo cb q18 27 fun (x19 : Bool) =>
 ite' (!x19) (
 R ()) <|
 join [] (fun J20 =>
 ite' a (
 deref d fun q22 =>
 so q22 28 [.bool false] <|
 J20 ()) <|
 J20 ()) fun (y21 : Unit) =>
 drw <|
 ld cu ⟨n1, 1⟩ fun (x23 : Int) =>
 deref d fun q24 =>
 lo cu q24 29 fun (x25 : Int) =>
 ite' (decide (x23 ≥ x25)) (
 deref d fun q26 =>
 so q26 27 [.bool false] <|
 deref d fun q27 =>
 so q27 28 [.bool false] <|
 drw <|
 deref d fun q28 =>
 deref d fun q29 =>
 lo cu q28 25 fun (x30 : Int) =>
 lo cu q29 30 fun (x31 : Int) =>
 deref d fun q32 =>
 so q32 25 [.int .u64 (if x31 > x30 then x31 else x30)] <|
 deref d fun q33 =>
 lo ci q33 23 fun (x34 : Int) =>
 ite' (x34 != (3:Int)) (
 deref d fun q35 =>
 so q35 30 [zu] <|
 R ()) <|
 R ()) <|
 R ()
theorem call_canterref08_Model_recover (d : Option Pt) (o : T_u8b) (a : Bool) (R : Rs.T [] → WP) (w : World) (h : W_canterref08_Model_recover d o a R w) : CW Tryz.prog N_canterref08_Model_recover [vp d, .agg (Ks.mk K_u8b o), .lf (.bool a)] [] R w := cs Tryz.func117 (.s .o (.s (.j [(15, qb)] .o (.s (.s .o (.s (.d (.f 0 [0] (.f 1 [0] (.f 2 [4] (.f 4 [4] (.f 7 [0] (.f 11 [0] (.f 3 [24] (.f 5 [26] (.f 8 [29] (.f 12 [33] (.f 9 [30] (.f 13 [34] (.f 10 [31] (.f 14 [35] (.f 15 [32, 36] (.w 6 [25, 27] (.f 16 [22] (.f 17 [38] (.w 18 [28, 39] (.f 19 [23] (.f 20 [40] (.w 21 [37, 41] .fin))))))))))))))))))))))) .o)) .o)) (.s (.s .o (.s .o .o)) (.j [] (.s .o (.s .o .o)) (.s (.d (.f 0 [4] (.f 2 [0] (.f 1 [51] (.f 3 [53] (.f 4 [54] (.f 5 [55] (.f 6 [52, 56] .fin)))))))) (.s (.s .o (.s (.d (.f 0 [0] (.f 1 [0] (.f 5 [0] (.f 2 [65] (.f 6 [69] (.f 3 [66] (.f 7 [70] (.f 4 [67] (.f 8 [71] (.f 9 [68, 72] (.f 10 [64] (.f 11 [74] (.w 12 [73, 75] .fin)))))))))))))) (.s .o (.s .o .o)))) .o)))))) h (by kernel_rfl)
def W_canterref08_Model_window (d : Option Pt) (o : T_u8b) (a : Int) (a' : Int) (R : Rs.T [] → WP) : WP :=
 new (Ks.mk K_u8b o) fun n1 =>
 drw <|
 deref d fun q2 =>
 ld cu ⟨n1, 6⟩ fun (x3 : Int) =>
 deref d fun q4 =>
 lo cu q2 25 fun (x5 : Int) =>
 ld cu q4 fun (x6 : Int) =>
 call Tryz.prog N_canterref01_Sub [vu x5, vu x3] [qu] fun (r7 : Int) =>
 chk q4 (Ks.mk cu x6) <|
 deref d fun q8 =>
 so q8 25 [.int .u64 (if x6 > r7 then x6 else r7)] <|
 drw <|
 deref d fun q9 =>
 deref d fun q10 =>
 ld cu q10 fun (x11 : Int) =>
 lo cu q9 9 fun (x12 : Int) =>
 call Tryz.prog N_canterref08_Model_bw [vp d] [qu] fun (r13 : Int) =>
 ck q9 9 cu x12 <|
 chk q10 (Ks.mk cu x11) <|
 call Tryz.prog N_canterref01_Window [vu r13, vu x12, .lf (.int .u64 a'), vu a, vu x11] [qu] fun (r14 : Int) =>
 join [] (fun J15 =>
 deref d fun q17 =>
 lo cb q17 28 fun (x18 : Bool) =>
 ite' x18 (
 drw <|
 deref d fun q19 =>
 ld cu ⟨n1, 7⟩ fun (x20 : Int) =>
 ld cu ⟨n1, 5⟩ fun (x21 : Int) =>
 lo cu q19 25 fun (x22 : Int) =>
 call Tryz.prog N_canterref01_Add [vu x20, vu x21] [qu] fun (r23 : Int) =>
 ck q19 25 cu x22 <|
 deref d fun q24 =>
 so q24 25 [.int .u64 (if r23 > x22 then r23 else x22)] <|
 J15 ()) <|
 ld cu ⟨n1, 5⟩ fun (x25 : Int) =>
 ite' (x25 == (0:Int)) (
 J15 ()) <|
 deref d fun q26 =>
 lo cb q26 6 fun (x27 : Bool) =>
 ite' x27 (
 drw <|
 deref d fun q28 =>
 ld cu ⟨n1, 5⟩ fun (x29 : Int) =>
 lo cu q28 25 fun (x30 : Int) =>
 call Tryz.prog N_canterref01_Add [vu x30, vu x29] [qu] fun (r31 : Int) =>
 deref d fun q32 =>
 so q32 25 [.int .u64 (if r14 < r31 then r14 else r31)] <|
 J15 ()) <|
 join cb (fun J33 =>
 drw <|
 deref d fun q35 =>
 lo cu q35 25 fun (x36 : Int) =>
 ite' (decide (x36 < r14)) (
 J33 true) <|
 ld cu ⟨n1, 1⟩ fun (x37 : Int) =>
 deref d fun q38 =>
 ld cu q38 fun (x39 : Int) =>
 J33 (decide (x37 < (IntKind.u64.wrap ((10:Int) * x39))))) fun (y34 : Bool) =>
 ite' y34 (
 drw <|
 deref d fun q40 =>
 ld cu ⟨n1, 5⟩ fun (x41 : Int) =>
 lo cu q40 25 fun (x42 : Int) =>
 call Tryz.prog N_canterref01_Add [vu x42, vu x41] [qu] fun (r43 : Int) =>
 deref d fun q44 =>
 so q44 25 [.int .u64 r43] <|
 J15 ()) <|
 J15 ()) fun (y16 : Unit) =>
 drw <|
 deref d fun q45 =>
 deref d fun q46 =>
 lo cu q45 25 fun (x47 : Int) =>
 ld cu q46 fun (x48 : Int) =>
 deref d fun q49 =>
 so q49 25 [.int .u64 (if (IntKind.u64.wrap ((4:Int) * x48)) > x47 then (IntKind.u64.wrap ((4:Int) * x48)) else x47)] <|
 deref d fun q50 =>
 lo ci q50 23 fun (x51 : Int) =>
 ite' (x51 == (3:Int)) (
 deref d fun q52 =>
 ld cu q52 fun (x53 : Int) =>
 deref d fun q54 =>
 so q54 25 [.int .u64 (IntKind.u64.wrap ((4:Int) * x53))] <|
 R ()) <|
 R ()
theorem call_canterref08_Model_window (d : Option Pt) (o : T_u8b) (a : Int) (a' : Int) (R : Rs.T [] → WP) (w : World) (h : W_canterref08_Model_window d o a a' R w) : CW Tryz.prog N_canterref08_Model_window [vp d, .agg (Ks.mk K_u8b o), vu a, .lf (.int .u64 a')] [] R w := cs Tryz.func118 (.s .o (.s (.d (.f 0 [0] (.f 1 [0] (.f 5 [5] (.f 8 [0] (.f 2 [10] (.f 6 [14] (.f 9 [17] (.f 3 [11] (.f 10 [18] (.f 4 [12] (.f 11 [19] (.w 7 [13, 15] (.f 12 [16, 20] (.f 13 [9] (.f 14 [22] (.w 15 [21, 23] .fin))))))))))))))))) (.s (.d (.f 0 [0] (.f 2 [0] (.f 7 [3] (.f 8 [2] (.f 9 [0] (.f 3 [26] (.f 10 [33] (.f 4 [27] (.f 11 [34] (.f 5 [28] (.f 12 [35] (.f 6 [29] (.w 1 [24] (.w 13 [25, 30, 31, 32, 36] (.w 14 [37] .fin)))))))))))))))) (.j [] (.b (.s .o (.s (.d (.f 0 [0] (.f 1 [0] (.f 5 [5] (.f 7 [5] (.f 2 [44] (.f 6 [48] (.f 8 [50] (.f 3 [45] (.f 4 [46] (.w 9 [49, 51] (.f 10 [47, 52] (.f 11 [43] (.f 12 [54] (.w 13 [53, 55] .fin))))))))))))))) (.s .o (.s .o (.s .o (.s (.d (.f 0 [0] (.f 1 [0] (.f 5 [5] (.f 8 [8] (.f 2 [67] (.f 6 [71] (.f 3 [68] (.f 4 [69] (.w 7 [70, 72] (.f 9 [73, 74] (.f 10 [66] (.f 11 [76] (.w 12 [75, 77] .fin)))))))))))))) (.j [(78, qb)] (.d (.f 0 [0] (.f 4 [8] (.f 1 [79] (.f 2 [80] (.f 3 [81] (.f 5 [82, 83] (.f 6 [84] (.f 7 [5, 85] (.f 9 [0, 85] (.f 8 [85, 86] (.f 10 [85, 88] (.f 11 [85, 89] (.f 12 [85, 90] (.f 13 [85, 91] (.f 14 [85, 87, 92] (.f 15 [85, 93] (.w 16 [94] .fin)))))))))))))))))) (.s (.d (.f 0 [0] (.f 1 [0] (.f 5 [5] (.f 2 [96] (.f 6 [100] (.f 3 [97] (.f 4 [98] (.w 7 [99, 101] (.f 8 [95] (.f 9 [103] (.w 10 [102, 104] .fin)))))))))))) .o))))))))) (.s (.d (.f 0 [0] (.f 1 [0] (.f 5 [0] (.f 2 [106] (.f 6 [110] (.f 3 [107] (.f 7 [111] (.f 4 [108] (.f 8 [112] (.f 9 [113] (.f 10 [109, 114] (.f 11 [105] (.f 12 [116] (.w 13 [115, 117] .fin))))))))))))))) (.s .o (.s .o .o))))))) h (by kernel_rfl)
def W_canterref08_NewModel (mss : Int) (R : Rs.T [qp] → WP) : WP :=
 call Tryz.prog N_canterref08_NewWin [.lf (.int .u64 (10:Int)), .lf (.bool false)] [qp] fun (r1 : Option Pt) =>
 new [.int .u64 (if (if (9000:Int) < mss then (9000:Int) else mss) > (100:Int) then (if (9000:Int) < mss then (9000:Int) else mss) else (100:Int)), .ptr r1, zu, zu, zu, zi, .bool false, zi, zu, zu, zu, .bool false, .bool false, .bool false, zu, .bool false, .bool false, zu, zi, zu, zu, zu, zu, zi, zu, zu, .int .u64 (739:Int), .bool false, .bool false, zu, zu] fun n2 =>
 deref (some ⟨n2, 0⟩) fun q3 =>
 so q3 25 [.int .u64 (IntKind.u64.wrap ((10:Int) * (if (if (9000:Int) < mss then (9000:Int) else mss) > (100:Int) then (if (9000:Int) < mss then (9000:Int) else mss) else (100:Int))))] <|
 deref (some ⟨n2, 0⟩) fun q4 =>
 lo cu q4 25 fun (x5 : Int) =>
 call Tryz.prog N_canterref01_Rate [.lf (.int .u64 (IntKind.u64.wrap (x5 * (1000:Int)))), .lf (.int .u64 (739:Int))] [qu] fun (r6 : Int) =>
 deref (some ⟨n2, 0⟩) fun q7 =>
 so q7 24 [.int .u64 r6] <|
 R (some ⟨n2, 0⟩)
theorem call_canterref08_NewModel (mss : Int) (R : Rs.T [qp] → WP) (w : World) (h : W_canterref08_NewModel mss R w) : CW Tryz.prog N_canterref08_NewModel [vu mss] [qp] R w := cs Tryz.func55 (.s .o (.s .o (.s .o (.s .o (.s .o (.s .o .o)))))) h (by kernel_rfl)
def W_canterref08_NewWin (window : Int) (least : Bool) (R : Rs.T [qp] → WP) : WP :=
 new [.int .u64 window, zu, zu, zu, zu, zu, zu, zu, .bool least] fun n1 =>
 ite' least (
 deref (some ⟨n1, 0⟩) fun q2 =>
 so q2 4 [.int .u64 (18446744073709551615:Int), .int .u64 (18446744073709551615:Int), .int .u64 (18446744073709551615:Int)] <|
 R (some ⟨n1, 0⟩)) <|
 R (some ⟨n1, 0⟩)
theorem call_canterref08_NewWin (window : Int) (least : Bool) (R : Rs.T [qp] → WP) (w : World) (h : W_canterref08_NewWin window least R w) : CW Tryz.prog N_canterref08_NewWin [vu window, .lf (.bool least)] [qp] R w := cs Tryz.func105 (.s .o (.s .o (.s (.s .o (.s .o .o)) (.s .o .o)))) h (by kernel_rfl)
def W_canterref08_Pipe_Update (p : Option Pt) (start : Bool) (limited : Bool) (bw : Int) (R : Rs.T [qb] → WP) : WP :=
 deref p fun q1 =>
 lo cb q1 2 fun (x2 : Bool) =>
 ite' ((x2 || (!start)) || limited) (
 deref p fun q3 =>
 lo cb q3 2 fun (x4 : Bool) =>
 R x4) <|
 deref p fun q5 =>
 ld cu q5 fun (x6 : Int) =>
 call Tryz.prog N_canterref01_MulDiv [vu x6, .lf (.int .u64 (320:Int)), .lf (.int .u64 (256:Int))] [qu] fun (r7 : Int) =>
 ite' (decide (bw ≥ r7)) (
 deref p fun q8 =>
 st q8 [.int .u64 bw] <|
 deref p fun q9 =>
 so q9 1 [zi] <|
 R false) <|
 deref p fun q10 =>
 lo ci q10 1 fun (x11 : Int) =>
 deref p fun q12 =>
 so q12 1 [.int .i64 (IntKind.i64.wrap (x11 + (1:Int)))] <|
 deref p fun q13 =>
 lo ci q13 1 fun (x14 : Int) =>
 deref p fun q15 =>
 so q15 2 [.bool (decide (x14 ≥ (3:Int)))] <|
 deref p fun q16 =>
 lo cb q16 2 fun (x17 : Bool) =>
 R x17
theorem call_canterref08_Pipe_Update (p : Option Pt) (start : Bool) (limited : Bool) (bw : Int) (R : Rs.T [qb] → WP) (w : World) (h : W_canterref08_Pipe_Update p start limited bw R w) : CW Tryz.prog N_canterref08_Pipe_Update [vp p, .lf (.bool start), .lf (.bool limited), vu bw] [qb] R w := cs Tryz.func150 (.s .o (.s (.s .o (.s (.s .o .o) .o)) (.s (.s .o (.s (.s .o (.s .o .o)) .o)) (.s .o (.s .o (.s .o .o)))))) h (by kernel_rfl)
end Go.X
