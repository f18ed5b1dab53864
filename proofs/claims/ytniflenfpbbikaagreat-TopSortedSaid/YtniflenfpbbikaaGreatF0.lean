/- What each function of the program computes, as a weakest precondition, printed by program; the kernel sees that the code says so. -/
import Derived.Test.YtniflenfpbbikaaGreatK
import Derived.Test.YtniflenfpbbikaaGreatProg
set_option linter.unusedVariables false
set_option linter.unusedSimpArgs false
set_option linter.unusedSectionVars false
namespace Go.X
open Go.Proofs
def W_arena_Arena_Free (a : Option Pt) (i : Int) (R : Rs.T [qi] → WP) : WP :=
 ite' a.isNone (
 R (2:Int)) <|
 join cb (fun J1 =>
 ite' (decide (i < (0:Int))) (
 J1 true) <|
 deref a fun q3 =>
 lo ci q3 2 fun (x4 : Int) =>
 J1 (decide (i ≥ x4))) fun (y2 : Bool) =>
 ite' y2 (
 R (1:Int)) <|
 call Tryz.prog N_arena_Arena_Has [vp a, vi i] [qb] fun (r5 : Bool) =>
 ite' (!r5) (
 R (7:Int)) <|
 deref a fun q6 =>
 ld cl q6 fun (x7 : Sl) =>
 idx x7 i 1 fun q8 =>
 st q8 [.bool false] <|
 deref a fun q9 =>
 lo cl q9 1 fun (x10 : Sl) =>
 new [.int .i64 i] fun n11 =>
 app 1 x10 ⟨some ⟨n11, 0⟩, 1, 1⟩ fun s12 =>
 deref a fun q13 =>
 so q13 1 [.sl s12] <|
 R (0:Int)
theorem call_arena_Arena_Free (a : Option Pt) (i : Int) (R : Rs.T [qi] → WP) (w : World) (h : W_arena_Arena_Free a i R w) : CW Tryz.prog N_arena_Arena_Free [vp a, vi i] [qi] R w := cs Tryz.func110 (.s .o (.s (.b (.s .o (.s (.s .o .o) (.j [(8, qb)] .o (.s (.s .o .o) (.s .o (.s (.s .o .o) .o))))))) (.s .o (.s .o (.s .o .o))))) h (by kernel_rfl)
def W_arena_Arena_Get (d : Option Pt) (R : Rs.T [qi, qi] → WP) : WP :=
 ite' d.isNone (
 R ((0:Int), (2:Int))) <|
 deref d fun q1 =>
 lo cl q1 1 fun (x2 : Sl) =>
 ite' (decide (((x2.len : Nat) : Int) > (0:Int))) (
 deref d fun q3 =>
 lo cl q3 1 fun (x4 : Sl) =>
 idx x4 (IntKind.i64.wrap (((x2.len : Nat) : Int) - (1:Int))) 1 fun q5 =>
 ld ci q5 fun (x6 : Int) =>
 deref d fun q7 =>
 lo cl q7 1 fun (x8 : Sl) =>
 slc x8 none (some (IntKind.i64.wrap (((x2.len : Nat) : Int) - (1:Int)))) none 1 fun s9 =>
 deref d fun q10 =>
 so q10 1 [.sl s9] <|
 deref d fun q11 =>
 ld cl q11 fun (x12 : Sl) =>
 idx x12 x6 1 fun q13 =>
 st q13 [.bool true] <|
 R (x6, (0:Int))) <|
 drw <|
 deref d fun q14 =>
 deref d fun q15 =>
 ld cl q14 fun (x16 : Sl) =>
 lo ci q15 2 fun (x17 : Int) =>
 ite' (decide (((x16.len : Nat) : Int) ≥ x17)) (
 R ((0:Int), (5:Int))) <|
 deref d fun q18 =>
 ld cl q18 fun (x19 : Sl) =>
 new [.bool true] fun n20 =>
 app 1 x19 ⟨some ⟨n20, 0⟩, 1, 1⟩ fun s21 =>
 deref d fun q22 =>
 st q22 [.sl s21] <|
 deref d fun q23 =>
 ld cl q23 fun (x24 : Sl) =>
 R ((IntKind.i64.wrap (((x24.len : Nat) : Int) - (1:Int))), (0:Int))
theorem call_arena_Arena_Get (d : Option Pt) (R : Rs.T [qi, qi] → WP) (w : World) (h : W_arena_Arena_Get d R w) : CW Tryz.prog N_arena_Arena_Get [vp d] [qi, qi] R w := cs Tryz.func75 (.s .o (.s (.s .o (.s (.s .o .o) .o)) (.s (.s .o (.s .o (.s (.s .o (.s .o (.s .o (.s .o .o)))) .o))) (.s (.s (.d (.f 0 [0] (.f 5 [0] (.f 1 [40] (.f 6 [45] (.f 2 [41] (.f 7 [46] (.f 3 [42] (.f 8 [47] (.f 4 [43] (.f 9 [44, 48] .fin))))))))))) (.s (.s .o .o) .o)) (.s .o (.s .o .o)))))) h (by kernel_rfl)
def W_arena_Arena_Has (a : Option Pt) (i : Int) (R : Rs.T [qb] → WP) : WP :=
 ite' ((!a.isNone) && (decide (i ≥ (0:Int)))) (
 deref a fun q1 =>
 ld cl q1 fun (x2 : Sl) =>
 ite' (decide (i < ((x2.len : Nat) : Int))) (
 deref a fun q3 =>
 ld cl q3 fun (x4 : Sl) =>
 idx x4 i 1 fun q5 =>
 ld cb q5 fun (x6 : Bool) =>
 R x6) <|
 R false) <|
 R false
theorem call_arena_Arena_Has (a : Option Pt) (i : Int) (R : Rs.T [qb] → WP) (w : World) (h : W_arena_Arena_Has a i R w) : CW Tryz.prog N_arena_Arena_Has [vp a, vi i] [qb] R w := cs Tryz.func145 (.s .o (.s .o .o)) h (by kernel_rfl)
def W_arena_New (n : Int) (R : Rs.T [qp] → WP) : WP :=
 new [.sl ⟨none, 0, 0⟩, .sl ⟨none, 0, 0⟩, .int .i64 (if (4096:Int) < (if (0:Int) > n then (0:Int) else n) then (4096:Int) else (if (0:Int) > n then (0:Int) else n))] fun n1 =>
 R (some ⟨n1, 0⟩)
theorem call_arena_New (n : Int) (R : Rs.T [qp] → WP) (w : World) (h : W_arena_New n R w) : CW Tryz.prog N_arena_New [vi n] [qp] R w := cs Tryz.func42 (.s .o (.s .o .o)) h (by kernel_rfl)
def W_audit_Once (l : Sl) (R : Rs.T [qb] → WP) : WP :=
 loop ci (0:Int) fun J1 (y2 : Int) =>
 ite' (decide (y2 < ((l.len : Nat) : Int))) (
 idx l y2 5 fun q3 =>
 ld K_iuiub q3 fun (x4 : T_iuiub) =>
 new [zi, zu, zi, zu, .bool false] fun n5 =>
 st ⟨n5, 0⟩ (Ks.mk K_iuiub x4) <|
 ld cb ⟨n5, 4⟩ fun (x6 : Bool) =>
 ite' x6 (
 J1 (IntKind.i64.wrap (y2 + (1:Int)))) <|
 slc l none (some y2) none 5 fun s7 =>
 loop ci (0:Int) fun J8 (y9 : Int) =>
 ite' (decide (y9 < ((s7.len : Nat) : Int))) (
 idx s7 y9 5 fun q10 =>
 ld K_iuiub q10 fun (x11 : T_iuiub) =>
 new [zi, zu, zi, zu, .bool false] fun n12 =>
 st ⟨n12, 0⟩ (Ks.mk K_iuiub x11) <|
 ld cb ⟨n12, 4⟩ fun (x13 : Bool) =>
 ite' (!x13) (
 ld K_iuiub ⟨n5, 0⟩ fun (x14 : T_iuiub) =>
 ld K_iuiub ⟨n12, 0⟩ fun (x15 : T_iuiub) =>
 call Tryz.prog N_audit_meet [.agg (Ks.mk K_iuiub x14), .agg (Ks.mk K_iuiub x15)] [qb] fun (r16 : Bool) =>
 ite' r16 (
 R false) <|
 J8 (IntKind.i64.wrap (y9 + (1:Int)))) <|
 J8 (IntKind.i64.wrap (y9 + (1:Int)))) <|
 J1 (IntKind.i64.wrap (y2 + (1:Int)))) <|
 R true
theorem call_audit_Once (l : Sl) (R : Rs.T [qb] → WP) (w : World) (h : W_audit_Once l R w) : CW Tryz.prog N_audit_Once [.lf (.sl l)] [qb] R w := cs Tryz.func9 (.s .o (.s .o (.s (.s .o (.b (.l [(9, qi)] (.s .o (.s (.s .o .o) (.s (.b (.s .o (.s (.s .o (.s .o .o)) (.s .o (.b (.l [(20, qi)] (.s .o (.s (.s .o .o) (.s (.b (.s .o (.s .o (.s (.s .o .o) .o)))) .o))))))))) .o)))))) (.s .o .o)))) h (by kernel_rfl)
def W_audit_Part (l : Sl) (of : Sl) (R : Rs.T [qb] → WP) : WP :=
 loop [.sl, .int .i64] (l, (0:Int)) fun J1 (y2 : Sl × Int) =>
 ite' (decide (y2.2 < ((of.len : Nat) : Int))) (
 idx of y2.2 5 fun q3 =>
 ld K_iuiub q3 fun (x4 : T_iuiub) =>
 new [zi, zu, zi, zu, .bool false] fun n5 =>
 st ⟨n5, 0⟩ (Ks.mk K_iuiub x4) <|
 drw <|
 ite' (decide (((y2.1.len : Nat) : Int) > (0:Int))) (
 ld K_iuiub ⟨n5, 0⟩ fun (x6 : T_iuiub) =>
 idx y2.1 (0:Int) 5 fun q7 =>
 ld K_iuiub q7 fun (x8 : T_iuiub) =>
 ite' ((x8.1 == x6.1) && ((x8.2.1 == x6.2.1) && ((x8.2.2.1 == x6.2.2.1) && ((x8.2.2.2.1 == x6.2.2.2.1) && (x8.2.2.2.2 == x6.2.2.2.2))))) (
 slc y2.1 (some (1:Int)) none none 5 fun s9 =>
 J1 (s9, (IntKind.i64.wrap (y2.2 + (1:Int))))) <|
 J1 (y2.1, (IntKind.i64.wrap (y2.2 + (1:Int))))) <|
 J1 (y2.1, (IntKind.i64.wrap (y2.2 + (1:Int))))) <|
 R (((y2.1.len : Nat) : Int) == (0:Int))
theorem call_audit_Part (l : Sl) (of : Sl) (R : Rs.T [qb] → WP) (w : World) (h : W_audit_Part l of R w) : CW Tryz.prog N_audit_Part [.lf (.sl l), .lf (.sl of)] [qb] R w := cs Tryz.func10 (.s .o (.s (.s .o (.b (.l [(0, qs), (9, qi)] (.s .o (.s (.s .o .o) (.s (.b (.s .o (.s (.d (.f 0 [0] (.f 1 [13] (.f 2 [14] (.f 3 [15] (.f 4 [0, 16] (.f 7 [6, 16] (.f 5 [16, 17] (.f 6 [16, 18] (.f 8 [16, 19, 20] (.f 9 [16, 21] .fin))))))))))) (.s .o .o)))) .o)))))) (.s .o .o))) h (by kernel_rfl)
def W_audit_Sorted (l : Sl) (R : Rs.T [qb] → WP) : WP :=
 mkm fun r1 =>
 loop ci (0:Int) fun J2 (y3 : Int) =>
 ite' (decide (y3 < ((l.len : Nat) : Int))) (
 idx l y3 5 fun q4 =>
 ld K_iuiub q4 fun (x5 : T_iuiub) =>
 new [zi, zu, zi, zu, .bool false] fun n6 =>
 st ⟨n6, 0⟩ (Ks.mk K_iuiub x5) <|
 ld cb ⟨n6, 4⟩ fun (x7 : Bool) =>
 ite' x7 (
 J2 (IntKind.i64.wrap (y3 + (1:Int)))) <|
 join [] (fun J8 =>
 ld ci ⟨n6, 0⟩ fun (x10 : Int) =>
 mlk r1 .i64 x10 K_iuiub [zi, zu, zi, zu, .bool false] fun (y11 : T_iuiub × Bool) =>
 new [zi, zu, zi, zu, .bool false] fun n12 =>
 st ⟨n12, 0⟩ (Ks.mk K_iuiub y11.1) <|
 drw <|
 ite' y11.2 (
 ld K_iuiub ⟨n12, 0⟩ fun (x13 : T_iuiub) =>
 ld cu ⟨n6, 1⟩ fun (x14 : Int) =>
 call Tryz.prog N_audit_end [.agg (Ks.mk K_iuiub x13)] [qu] fun (r15 : Int) =>
 chk ⟨n6, 1⟩ (Ks.mk cu x14) <|
 ite' (decide (x14 < r15)) (
 R false) <|
 J8 ()) <|
 J8 ()) fun (y9 : Unit) =>
 ld ci ⟨n6, 0⟩ fun (x16 : Int) =>
 ld K_iuiub ⟨n6, 0⟩ fun (x17 : T_iuiub) =>
 mup r1 .i64 x16 K_iuiub (Ks.mk K_iuiub x17) <|
 J2 (IntKind.i64.wrap (y3 + (1:Int)))) <|
 R true
theorem call_audit_Sorted (l : Sl) (R : Rs.T [qb] → WP) (w : World) (h : W_audit_Sorted l R w) : CW Tryz.prog N_audit_Sorted [.lf (.sl l)] [qb] R w := cs Tryz.func8 (.s .o (.s .o (.s .o (.s (.s .o (.b (.l [(11, qi)] (.s .o (.s (.s .o .o) (.s (.b (.s .o (.s (.s .o (.s .o .o)) (.j [] (.s .o (.s (.d (.f 0 [7] (.f 1 [24] (.f 2 [5, 25] (.f 4 [6, 25] (.f 3 [25, 26] (.w 5 [25, 28] (.f 6 [25, 27, 29] (.f 7 [25, 30] .fin))))))))) (.s (.s .o .o) .o))) .o)))) .o)))))) (.s .o .o))))) h (by kernel_rfl)
def W_audit_end (s : T_iuiub) (R : Rs.T [qu] → WP) : WP :=
 new (Ks.mk K_iuiub s) fun n1 =>
 ld cu ⟨n1, 1⟩ fun (x2 : Int) =>
 ld ci ⟨n1, 2⟩ fun (x3 : Int) =>
 call Tryz.prog N_sat_Add [vu x2, .lf (.int .u64 (IntKind.u64.wrap (if (0:Int) > x3 then (0:Int) else x3)))] [qu] fun (r4 : Int) =>
 R r4
theorem call_audit_end (s : T_iuiub) (R : Rs.T [qu] → WP) (w : World) (h : W_audit_end s R w) : CW Tryz.prog N_audit_end [.agg (Ks.mk K_iuiub s)] [qu] R w := cs Tryz.func15 (.s .o (.s .o .o)) h (by kernel_rfl)
def W_audit_meet (a : T_iuiub) (b : T_iuiub) (R : Rs.T [qb] → WP) : WP :=
 new (Ks.mk K_iuiub a) fun n1 =>
 new (Ks.mk K_iuiub b) fun n2 =>
 drw <|
 ld ci ⟨n1, 0⟩ fun (x3 : Int) =>
 ld ci ⟨n2, 0⟩ fun (x4 : Int) =>
 ite' (x3 == x4) (
 ld K_iuiub ⟨n1, 0⟩ fun (x5 : T_iuiub) =>
 ld K_iuiub ⟨n2, 0⟩ fun (x6 : T_iuiub) =>
 ld cu ⟨n1, 1⟩ fun (x7 : Int) =>
 ld cu ⟨n2, 1⟩ fun (x8 : Int) =>
 call Tryz.prog N_audit_end [.agg (Ks.mk K_iuiub x5)] [qu] fun (r9 : Int) =>
 chk ⟨n2, 1⟩ (Ks.mk cu x8) <|
 chk ⟨n1, 1⟩ (Ks.mk cu x7) <|
 chk ⟨n2, 0⟩ (Ks.mk K_iuiub x6) <|
 call Tryz.prog N_audit_end [.agg (Ks.mk K_iuiub x6)] [qu] fun (r10 : Int) =>
 chk ⟨n2, 1⟩ (Ks.mk cu x8) <|
 chk ⟨n1, 1⟩ (Ks.mk cu x7) <|
 R (decide ((if x8 > x7 then x8 else x7) < (if r10 < r9 then r10 else r9)))) <|
 R false
theorem call_audit_meet (a : T_iuiub) (b : T_iuiub) (R : Rs.T [qb] → WP) (w : World) (h : W_audit_meet a b R w) : CW Tryz.prog N_audit_meet [.agg (Ks.mk K_iuiub a), .agg (Ks.mk K_iuiub b)] [qb] R w := cs Tryz.func16 (.s .o (.s (.d (.f 0 [2] (.f 2 [3] (.f 1 [5] (.f 3 [7] (.f 4 [6, 8] (.f 5 [9] (.f 6 [2, 10] (.f 8 [3, 10] (.f 11 [2, 10] (.f 13 [3, 10] (.f 7 [10, 11] (.f 9 [10, 13] (.f 10 [10, 12, 14] (.w 12 [10, 16] (.w 14 [10, 18] (.f 15 [10, 17, 19] (.f 16 [10, 15, 20] (.f 17 [10, 21] (.w 18 [22] .fin)))))))))))))))))))) .o)) h (by kernel_rfl)
def W_bbr_Model_State (m : Option Pt) (R : Rs.T [.agg K_i2u6b2] → WP) : WP :=
 new [zi, zi, zu, zu, zu, zu, zu, zu, .bool false, .bool false] fun n1 =>
 ite' m.isNone (
 st ⟨n1, 0⟩ [zi, zi, zu, zu, zu, zu, zu, zu, .bool false, .bool false] <|
 ld K_i2u6b2 ⟨n1, 0⟩ fun (x2 : T_i2u6b2) =>
 R x2) <|
 drw <|
 deref m fun q3 =>
 deref m fun q4 =>
 deref m fun q5 =>
 deref m fun q6 =>
 deref m fun q7 =>
 deref m fun q8 =>
 deref m fun q9 =>
 lo ci q3 7 fun (x10 : Int) =>
 lo cu q4 8 fun (x11 : Int) =>
 lo cu q5 9 fun (x12 : Int) =>
 lo cp q6 4 fun (x13 : Option Pt) =>
 lo cp q7 1 fun (x14 : Option Pt) =>
 lo cp q8 3 fun (x15 : Option Pt) =>
 lo cp q9 2 fun (x16 : Option Pt) =>
 call Tryz.prog N_bbr_Model_bw [vp m] [qu] fun (r17 : Int) =>
 ck q9 2 cp x16 <|
 ck q8 3 cp x15 <|
 ck q7 1 cp x14 <|
 ck q6 4 cp x13 <|
 ck q5 9 cu x12 <|
 ck q4 8 cu x11 <|
 ck q3 7 ci x10 <|
 call Tryz.prog N_probe_Probe_Best [vp x13] [qu] fun (r18 : Int) =>
 ck q9 2 cp x16 <|
 ck q8 3 cp x15 <|
 ck q7 1 cp x14 <|
 ck q5 9 cu x12 <|
 ck q4 8 cu x11 <|
 ck q3 7 ci x10 <|
 call Tryz.prog N_bbr_Model_gain [vp m] [qu] fun (r19 : Int) =>
 ck q9 2 cp x16 <|
 ck q8 3 cp x15 <|
 ck q7 1 cp x14 <|
 ck q5 9 cu x12 <|
 ck q4 8 cu x11 <|
 ck q3 7 ci x10 <|
 call Tryz.prog N_rounds_Rounds_Count [vp x14] [qu] fun (r20 : Int) =>
 ck q9 2 cp x16 <|
 ck q8 3 cp x15 <|
 ck q5 9 cu x12 <|
 ck q4 8 cu x11 <|
 ck q3 7 ci x10 <|
 call Tryz.prog N_cycle_Cycle_Phase [vp x15] [qi] fun (r21 : Int) =>
 ck q9 2 cp x16 <|
 ck q5 9 cu x12 <|
 ck q4 8 cu x11 <|
 ck q3 7 ci x10 <|
 call Tryz.prog N_pipe_Pipe_Full [vp x16] [qb] fun (r22 : Bool) =>
 ck q5 9 cu x12 <|
 ck q4 8 cu x11 <|
 ck q3 7 ci x10 <|
 call Tryz.prog N_bbr_Model_policed [vp m] [qb] fun (r23 : Bool) =>
 ck q5 9 cu x12 <|
 ck q4 8 cu x11 <|
 ck q3 7 ci x10 <|
 st ⟨n1, 0⟩ [.int .i64 x10, .int .i64 r21, .int .u64 x11, .int .u64 x12, .int .u64 r17, .int .u64 r18, .int .u64 r19, .int .u64 r20, .bool r22, .bool r23] <|
 ld K_i2u6b2 ⟨n1, 0⟩ fun (x24 : T_i2u6b2) =>
 R x24
theorem call_bbr_Model_State (m : Option Pt) (R : Rs.T [.agg K_i2u6b2] → WP) (w : World) (h : W_bbr_Model_State m R w) : CW Tryz.prog N_bbr_Model_State [vp m] [.agg K_i2u6b2] R w := cs Tryz.func79 (.s .o (.s (.s .o (.s (.s .o .o) .o)) (.s (.d (.f 0 [0] (.f 4 [0] (.f 8 [0] (.f 12 [0] (.f 14 [0] (.f 19 [0] (.f 21 [0] (.f 26 [0] (.f 31 [0] (.f 36 [0] (.f 1 [6] (.f 5 [10] (.f 9 [14] (.f 15 [20] (.f 22 [27] (.f 27 [32] (.f 32 [37] (.f 2 [7] (.f 6 [11] (.f 10 [15] (.f 16 [21] (.f 23 [28] (.f 28 [33] (.f 33 [38] (.f 3 [8] (.f 7 [12] (.f 11 [16] (.f 17 [22] (.f 24 [29] (.f 29 [34] (.f 34 [39] (.w 13 [18] (.w 18 [23] (.w 20 [25] (.w 25 [30] (.w 30 [35] (.w 35 [40] (.w 37 [42] (.f 38 [9, 13, 17, 19, 24, 26, 31, 36, 41, 43] (.w 39 [2, 44] .fin))))))))))))))))))))))))))))))))))))))))) .o))) h (by kernel_rfl)
def W_bbr_Model_Update (d : Option Pt) (o : T_u8b) (a : Int) (R : Rs.T [.agg K_i2u6b2] → WP) : WP :=
 new (Ks.mk K_u8b o) fun n1 =>
 new [zi, zi, zu, zu, zu, zu, zu, zu, .bool false, .bool false] fun n2 =>
 ite' d.isNone (
 st ⟨n2, 0⟩ [zi, zi, zu, zu, zu, zu, zu, zu, .bool false, .bool false] <|
 ld K_i2u6b2 ⟨n2, 0⟩ fun (x3 : T_i2u6b2) =>
 R x3) <|
 drw <|
 ld K_u8b ⟨n1, 0⟩ fun (x4 : T_u8b) =>
 deref d fun q5 =>
 lo cp q5 1 fun (x6 : Option Pt) =>
 call Tryz.prog N_rounds_Rounds_Update [vp x6, .agg (Ks.mk K_u8b x4)] [qb] fun (r7 : Bool) =>
 drw <|
 ld K_u8b ⟨n1, 0⟩ fun (x8 : T_u8b) =>
 deref d fun q9 =>
 lo cp q9 5 fun (x10 : Option Pt) =>
 call Tryz.prog N_policer_Policer_Update [vp x10, .lf (.bool r7), .agg (Ks.mk K_u8b x8)] [] fun (r11 : Unit) =>
 ld K_u8b ⟨n1, 0⟩ fun (x12 : T_u8b) =>
 call Tryz.prog N_bbr_Model_measure [vp d, .agg (Ks.mk K_u8b x12)] [] fun (r13 : Unit) =>
 join [] (fun J14 =>
 join cb (fun J16 =>
 deref d fun q18 =>
 lo ci q18 7 fun (x19 : Int) =>
 ite' (x19 == (2:Int)) (
 call Tryz.prog N_bbr_Model_policed [vp d] [qb] fun (r20 : Bool) =>
 J16 (!r20)) <|
 J16 false) fun (y17 : Bool) =>
 ite' y17 (
 drw <|
 deref d fun q21 =>
 ld cu ⟨n1, 0⟩ fun (x22 : Int) =>
 deref d fun q23 =>
 ld cu ⟨n1, 6⟩ fun (x24 : Int) =>
 ld cu ⟨n1, 7⟩ fun (x25 : Int) =>
 lo cp q21 3 fun (x26 : Option Pt) =>
 lo cp q23 4 fun (x27 : Option Pt) =>
 call Tryz.prog N_probe_Probe_Best [vp x27] [qu] fun (r28 : Int) =>
 ck q21 3 cp x26 <|
 chk ⟨n1, 7⟩ (Ks.mk cu x25) <|
 chk ⟨n1, 6⟩ (Ks.mk cu x24) <|
 chk ⟨n1, 0⟩ (Ks.mk cu x22) <|
 call Tryz.prog N_bbr_Model_bdp [vp d, .lf (.int .u64 (320:Int))] [qu] fun (r29 : Int) =>
 ck q21 3 cp x26 <|
 chk ⟨n1, 7⟩ (Ks.mk cu x25) <|
 chk ⟨n1, 6⟩ (Ks.mk cu x24) <|
 chk ⟨n1, 0⟩ (Ks.mk cu x22) <|
 call Tryz.prog N_bbr_Model_bdp [vp d, .lf (.int .u64 (256:Int))] [qu] fun (r30 : Int) =>
 ck q21 3 cp x26 <|
 chk ⟨n1, 7⟩ (Ks.mk cu x25) <|
 chk ⟨n1, 6⟩ (Ks.mk cu x24) <|
 chk ⟨n1, 0⟩ (Ks.mk cu x22) <|
 call Tryz.prog N_cycle_Cycle_Update [vp x26, vu x22, vu r28, vu x24, vu x25, vu r29, vu r30] [qb] fun (r31 : Bool) =>
 J14 ()) <|
 J14 ()) fun (y15 : Unit) =>
 drw <|
 deref d fun q32 =>
 ld cb ⟨n1, 8⟩ fun (x33 : Bool) =>
 deref d fun q34 =>
 lo cp q32 2 fun (x35 : Option Pt) =>
 ld cp q34 fun (x36 : Option Pt) =>
 call Tryz.prog N_winmax_Max_Best [vp x36] [qu] fun (r37 : Int) =>
 ck q32 2 cp x35 <|
 chk ⟨n1, 8⟩ (Ks.mk cb x33) <|
 call Tryz.prog N_pipe_Pipe_Update [vp x35, .lf (.bool r7), .lf (.bool x33), vu r37] [qb] fun (r38 : Bool) =>
 ld K_u8b ⟨n1, 0⟩ fun (x39 : T_u8b) =>
 call Tryz.prog N_bbr_Model_modes [vp d, .agg (Ks.mk K_u8b x39)] [] fun (r40 : Unit) =>
 ld K_u8b ⟨n1, 0⟩ fun (x41 : T_u8b) =>
 call Tryz.prog N_bbr_Model_look [vp d, .agg (Ks.mk K_u8b x41), .lf (.bool r7)] [] fun (r42 : Unit) =>
 call Tryz.prog N_bbr_Model_pace [vp d] [] fun (r43 : Unit) =>
 ld K_u8b ⟨n1, 0⟩ fun (x44 : T_u8b) =>
 call Tryz.prog N_bbr_Model_recover [vp d, .agg (Ks.mk K_u8b x44), .lf (.bool r7)] [] fun (r45 : Unit) =>
 ld K_u8b ⟨n1, 0⟩ fun (x46 : T_u8b) =>
 call Tryz.prog N_bbr_Model_window [vp d, .agg (Ks.mk K_u8b x46), vu a] [] fun (r47 : Unit) =>
 call Tryz.prog N_bbr_Model_State [vp d] [.agg K_i2u6b2] fun (r48 : T_i2u6b2) =>
 st ⟨n2, 0⟩ (Ks.mk K_i2u6b2 r48) <|
 ld K_i2u6b2 ⟨n2, 0⟩ fun (x49 : T_i2u6b2) =>
 R x49
theorem call_bbr_Model_Update (d : Option Pt) (o : T_u8b) (a : Int) (R : Rs.T [.agg K_i2u6b2] → WP) (w : World) (h : W_bbr_Model_Update d o a R w) : CW Tryz.prog N_bbr_Model_Update [vp d, .agg (Ks.mk K_u8b o), vu a] [.agg K_i2u6b2] R w := cs Tryz.func132 (.s .o (.s (.s .o (.s (.s .o .o) .o)) (.s (.d (.f 0 [0] (.f 4 [4] (.f 1 [11] (.f 2 [12] (.f 3 [13] (.w 5 [14, 15] (.w 6 [16] .fin)))))))) (.s (.d (.f 0 [0] (.f 4 [7] (.f 5 [4] (.f 1 [17] (.f 2 [18] (.f 3 [19] (.w 6 [20, 21, 22] .fin)))))))) (.s .o (.j [] (.j [(36, qb)] .o (.s (.d (.f 0 [0] (.f 4 [4] (.f 6 [0] (.f 11 [4] (.f 13 [4] (.f 15 [0] (.f 17 [0] (.f 1 [37] (.f 5 [41] (.f 7 [43] (.f 12 [48] (.f 14 [50] (.f 2 [38] (.f 8 [44] (.f 3 [39] (.f 9 [45] (.w 10 [46] (.w 16 [52] (.w 18 [54] (.w 19 [40, 42, 47, 49, 51, 53, 55] .fin))))))))))))))))))))) .o)) (.s (.d (.f 0 [0] (.f 4 [7] (.f 5 [4] (.f 7 [0] (.f 1 [57] (.f 6 [62] (.f 8 [64] (.f 2 [58] (.f 9 [65] (.f 3 [59] (.f 10 [66] (.w 11 [67] (.w 12 [60, 61, 63, 68] .fin)))))))))))))) (.s .o (.s .o (.s .o (.s .o (.s .o (.s .o .o))))))))))))) h (by kernel_rfl)
def W_bbr_Model_back (m : Option Pt) (R : Rs.T [] → WP) : WP :=
 drw <|
 deref m fun q1 =>
 deref m fun q2 =>
 lo cu q1 9 fun (x3 : Int) =>
 lo cu q2 10 fun (x4 : Int) =>
 deref m fun q5 =>
 so q5 9 [.int .u64 (if x4 > x3 then x4 else x3)] <|
 deref m fun q6 =>
 so q6 10 [zu] <|
 R ()
theorem call_bbr_Model_back (m : Option Pt) (R : Rs.T [] → WP) (w : World) (h : W_bbr_Model_back m R w) : CW Tryz.prog N_bbr_Model_back [vp m] [] R w := cs Tryz.func189 (.d (.f 0 [0] (.f 1 [0] (.f 2 [0] (.f 6 [0] (.f 3 [4] (.f 7 [8] (.f 4 [5] (.f 8 [9] (.f 5 [6] (.f 9 [10] (.f 10 [7, 11] (.f 11 [2] (.f 12 [13] (.w 13 [12, 14] (.f 14 [3] (.f 15 [15] (.w 16 [16] .fin)))))))))))))))))) h (by kernel_rfl)
def W_bbr_Model_bdp (m : Option Pt) (gain : Int) (R : Rs.T [qu] → WP) : WP :=
 drw <|
 deref m fun q1 =>
 lo cp q1 4 fun (x2 : Option Pt) =>
 call Tryz.prog N_bbr_Model_bw [vp m] [qu] fun (r3 : Int) =>
 ck q1 4 cp x2 <|
 call Tryz.prog N_probe_Probe_Best [vp x2] [qu] fun (r4 : Int) =>
 call Tryz.prog N_target_Bdp [vu r3, vu r4, vu gain] [qu] fun (r5 : Int) =>
 R r5
theorem call_bbr_Model_bdp (m : Option Pt) (gain : Int) (R : Rs.T [qu] → WP) (w : World) (h : W_bbr_Model_bdp m gain R w) : CW Tryz.prog N_bbr_Model_bdp [vp m, vu gain] [qu] R w := cs Tryz.func166 (.s .o (.s (.d (.f 0 [0] (.f 2 [0] (.f 7 [1] (.f 3 [7] (.f 4 [8] (.f 5 [9] (.w 1 [5] (.w 6 [10] (.w 8 [6, 11, 12] (.w 9 [13] .fin))))))))))) .o)) h (by kernel_rfl)
def W_bbr_Model_bw (m : Option Pt) (R : Rs.T [qu] → WP) : WP :=
 deref m fun q1 =>
 lo cp q1 5 fun (x2 : Option Pt) =>
 call Tryz.prog N_policer_Policer_Use [vp x2] [qu, qb] fun (r3 : Int × Bool) =>
 ite' r3.2 (
 R r3.1) <|
 deref m fun q4 =>
 ld cp q4 fun (x5 : Option Pt) =>
 call Tryz.prog N_winmax_Max_Best [vp x5] [qu] fun (r6 : Int) =>
 R r6
theorem call_bbr_Model_bw (m : Option Pt) (R : Rs.T [qu] → WP) (w : World) (h : W_bbr_Model_bw m R w) : CW Tryz.prog N_bbr_Model_bw [vp m] [qu] R w := cs Tryz.func119 (.s .o (.s (.s .o (.s .o (.s (.s .o .o) .o))) (.s .o .o))) h (by kernel_rfl)
def W_bbr_Model_cruise (m : Option Pt) (now : Int) (R : Rs.T [] → WP) : WP :=
 deref m fun q1 =>
 so q1 7 [.int .i64 (2:Int)] <|
 deref m fun q2 =>
 lo cp q2 3 fun (x3 : Option Pt) =>
 call Tryz.prog N_cycle_Cycle_Start [vp x3, vu now, .lf (.int .i64 (2:Int))] [] fun (r4 : Unit) =>
 R ()
theorem call_bbr_Model_cruise (m : Option Pt) (now : Int) (R : Rs.T [] → WP) (w : World) (h : W_bbr_Model_cruise m now R w) : CW Tryz.prog N_bbr_Model_cruise [vp m, vu now] [] R w := cs Tryz.func186 (.s .o .o) h (by kernel_rfl)
def W_bbr_Model_floor (m : Option Pt) (R : Rs.T [qu] → WP) : WP :=
 deref m fun q1 =>
 lo cu q1 6 fun (x2 : Int) =>
 R (IntKind.u64.wrap ((4:Int) * x2))
theorem call_bbr_Model_floor (m : Option Pt) (R : Rs.T [qu] → WP) (w : World) (h : W_bbr_Model_floor m R w) : CW Tryz.prog N_bbr_Model_floor [vp m] [qu] R w := cs Tryz.func188 (.s .o (.s .o .o)) h (by kernel_rfl)
def W_bbr_Model_gain (m : Option Pt) (R : Rs.T [qu] → WP) : WP :=
 deref m fun q1 =>
 lo ci q1 7 fun (x2 : Int) =>
 ite' (x2 == (0:Int)) (
 R (739:Int)) <|
 deref m fun q3 =>
 lo ci q3 7 fun (x4 : Int) =>
 ite' (x4 == (1:Int)) (
 R (88:Int)) <|
 join cb (fun J5 =>
 deref m fun q7 =>
 lo ci q7 7 fun (x8 : Int) =>
 ite' (x8 == (2:Int)) (
 call Tryz.prog N_bbr_Model_policed [vp m] [qb] fun (r9 : Bool) =>
 J5 (!r9)) <|
 J5 false) fun (y6 : Bool) =>
 ite' y6 (
 deref m fun q10 =>
 lo cp q10 3 fun (x11 : Option Pt) =>
 call Tryz.prog N_cycle_Cycle_Gain [vp x11] [qu] fun (r12 : Int) =>
 R r12) <|
 R (256:Int)
theorem call_bbr_Model_gain (m : Option Pt) (R : Rs.T [qu] → WP) (w : World) (h : W_bbr_Model_gain m R w) : CW Tryz.prog N_bbr_Model_gain [vp m] [qu] R w := cs Tryz.func121 (.s .o (.s (.b (.s .o (.s (.s .o .o) (.s .o (.s (.s .o .o) (.j [(15, qb)] .o (.s (.s .o .o) .o))))))) (.s .o .o))) h (by kernel_rfl)
def W_bbr_Model_look (m : Option Pt) (s : T_u8b) (start : Bool) (R : Rs.T [] → WP) : WP :=
 new (Ks.mk K_u8b s) fun n1 =>
 drw <|
 deref m fun q2 =>
 ld cu ⟨n1, 0⟩ fun (x3 : Int) =>
 ld cu ⟨n1, 4⟩ fun (x4 : Int) =>
 ld cu ⟨n1, 7⟩ fun (x5 : Int) =>
 lo cp q2 4 fun (x6 : Option Pt) =>
 call Tryz.prog N_bbr_Model_floor [vp m] [qu] fun (r7 : Int) =>
 ck q2 4 cp x6 <|
 chk ⟨n1, 7⟩ (Ks.mk cu x5) <|
 chk ⟨n1, 4⟩ (Ks.mk cu x4) <|
 chk ⟨n1, 0⟩ (Ks.mk cu x3) <|
 call Tryz.prog N_probe_Probe_Update [vp x6, vu x3, vu x4, .lf (.bool start), vu x5, vu r7] [qb, qb] fun (r8 : Bool × Bool) =>
 ite' r8.1 (
 drw <|
 deref m fun q9 =>
 deref m fun q10 =>
 lo cu q9 10 fun (x11 : Int) =>
 lo cu q10 9 fun (x12 : Int) =>
 deref m fun q13 =>
 so q13 10 [.int .u64 (if x12 > x11 then x12 else x11)] <|
 deref m fun q14 =>
 so q14 7 [.int .i64 (3:Int)] <|
 R ()) <|
 ite' r8.2 (
 call Tryz.prog N_bbr_Model_back [vp m] [] fun (r15 : Unit) =>
 deref m fun q16 =>
 so q16 7 [zi] <|
 deref m fun q17 =>
 lo cp q17 2 fun (x18 : Option Pt) =>
 call Tryz.prog N_pipe_Pipe_Full [vp x18] [qb] fun (r19 : Bool) =>
 ite' r19 (
 ld cu ⟨n1, 0⟩ fun (x20 : Int) =>
 call Tryz.prog N_bbr_Model_cruise [vp m, vu x20] [] fun (r21 : Unit) =>
 R ()) <|
 R ()) <|
 R ()
theorem call_bbr_Model_look (m : Option Pt) (s : T_u8b) (start : Bool) (R : Rs.T [] → WP) (w : World) (h : W_bbr_Model_look m s start R w) : CW Tryz.prog N_bbr_Model_look [vp m, .agg (Ks.mk K_u8b s), .lf (.bool start)] [] R w := cs Tryz.func169 (.s .o (.s (.d (.f 0 [0] (.f 4 [4] (.f 6 [4] (.f 8 [2] (.f 9 [4] (.f 11 [0] (.f 1 [9] (.f 5 [13] (.f 7 [15] (.f 10 [18] (.f 2 [10] (.f 3 [11] (.w 12 [20] (.w 13 [12, 14, 16, 17, 19, 21] (.f 14 [22] (.f 15 [8] (.f 16 [8] (.w 17 [23] (.w 18 [24] .fin)))))))))))))))))))) (.b (.s .o (.s (.d (.f 0 [0] (.f 1 [0] (.f 2 [0] (.f 6 [0] (.f 3 [29] (.f 7 [33] (.f 4 [30] (.f 8 [34] (.f 5 [31] (.f 9 [35] (.f 10 [32, 36] (.f 11 [27] (.f 12 [38] (.w 13 [37, 39] (.f 14 [28] (.f 15 [40] (.w 16 [41] .fin)))))))))))))))))) (.s .o (.s (.s .o (.s .o (.s .o (.s .o .o)))) .o))))))) h (by kernel_rfl)
def W_bbr_Model_measure (m : Option Pt) (s : T_u8b) (R : Rs.T [] → WP) : WP :=
 new (Ks.mk K_u8b s) fun n1 =>
 join [] (fun J2 =>
 ld cu ⟨n1, 5⟩ fun (x4 : Int) =>
 ite' (x4 == (0:Int)) (
 R ()) <|
 ld cu ⟨n1, 3⟩ fun (x5 : Int) =>
 ite' (x5 == (0:Int)) (
 R ()) <|
 J2 ()) fun (y3 : Unit) =>
 drw <|
 ld cu ⟨n1, 1⟩ fun (x6 : Int) =>
 ld cu ⟨n1, 2⟩ fun (x7 : Int) =>
 ld cu ⟨n1, 3⟩ fun (x8 : Int) =>
 call Tryz.prog N_sat_Sub [vu x6, vu x7] [qu] fun (r9 : Int) =>
 chk ⟨n1, 3⟩ (Ks.mk cu x8) <|
 call Tryz.prog N_wide_MulDiv [vu r9, .lf (.int .u64 (1000000000:Int)), vu x8] [qu] fun (r10 : Int) =>
 join cb (fun J11 =>
 ld cb ⟨n1, 8⟩ fun (x13 : Bool) =>
 ite' (!x13) (
 J11 true) <|
 deref m fun q14 =>
 ld cp q14 fun (x15 : Option Pt) =>
 call Tryz.prog N_winmax_Max_Best [vp x15] [qu] fun (r16 : Int) =>
 J11 (decide (r10 ≥ r16))) fun (y12 : Bool) =>
 ite' y12 (
 drw <|
 deref m fun q17 =>
 deref m fun q18 =>
 ld cp q17 fun (x19 : Option Pt) =>
 lo cp q18 1 fun (x20 : Option Pt) =>
 call Tryz.prog N_rounds_Rounds_Count [vp x20] [qu] fun (r21 : Int) =>
 chk q17 (Ks.mk cp x19) <|
 call Tryz.prog N_winmax_Max_Update [vp x19, vu r21, vu r10] [qu] fun (r22 : Int) =>
 R ()) <|
 R ()
theorem call_bbr_Model_measure (m : Option Pt) (s : T_u8b) (R : Rs.T [] → WP) (w : World) (h : W_bbr_Model_measure m s R w) : CW Tryz.prog N_bbr_Model_measure [vp m, .agg (Ks.mk K_u8b s)] [] R w := cs Tryz.func164 (.s .o (.j [] (.s .o (.s .o .o)) (.s (.d (.f 0 [3] (.f 2 [3] (.f 5 [3] (.f 1 [13] (.f 3 [15] (.f 6 [18] (.w 4 [14, 16] (.w 7 [17, 19] (.w 8 [20] .fin)))))))))) (.j [(32, qb)] .o (.s (.d (.f 0 [0] (.f 4 [0] (.f 9 [4] (.f 1 [33] (.f 5 [37] (.f 2 [34] (.f 6 [38] (.f 3 [35] (.f 7 [39] (.w 8 [40] (.w 10 [36, 41, 42] .fin)))))))))))) .o))))) h (by kernel_rfl)
def W_bbr_Model_modes (m : Option Pt) (s : T_u8b) (R : Rs.T [] → WP) : WP :=
 new (Ks.mk K_u8b s) fun n1 =>
 loop [] () fun J2 (y3 : Unit) =>
 join cb (fun J4 =>
 deref m fun q6 =>
 lo ci q6 7 fun (x7 : Int) =>
 ite' (x7 == (0:Int)) (
 deref m fun q8 =>
 lo cp q8 2 fun (x9 : Option Pt) =>
 call Tryz.prog N_pipe_Pipe_Full [vp x9] [qb] fun (r10 : Bool) =>
 J4 r10) <|
 J4 false) fun (y5 : Bool) =>
 ite' y5 (
 deref m fun q11 =>
 so q11 7 [.int .i64 (1:Int)] <|
 J2 ()) <|
 join cb (fun J12 =>
 drw <|
 deref m fun q14 =>
 lo ci q14 7 fun (x15 : Int) =>
 ite' (x15 == (1:Int)) (
 deref m fun q16 =>
 lo cp q16 4 fun (x17 : Option Pt) =>
 call Tryz.prog N_probe_Probe_Best [vp x17] [qu] fun (r18 : Int) =>
 ite' (decide (r18 > (0:Int))) (
 ld cu ⟨n1, 7⟩ fun (x19 : Int) =>
 call Tryz.prog N_bbr_Model_bdp [vp m, .lf (.int .u64 (256:Int))] [qu] fun (r20 : Int) =>
 chk ⟨n1, 7⟩ (Ks.mk cu x19) <|
 J12 (decide (x19 ≤ r20))) <|
 J12 false) <|
 J12 false) fun (y13 : Bool) =>
 ite' y13 (
 ld cu ⟨n1, 0⟩ fun (x21 : Int) =>
 call Tryz.prog N_bbr_Model_cruise [vp m, vu x21] [] fun (r22 : Unit) =>
 R ()) <|
 R ()
theorem call_bbr_Model_modes (m : Option Pt) (s : T_u8b) (R : Rs.T [] → WP) (w : World) (h : W_bbr_Model_modes m s R w) : CW Tryz.prog N_bbr_Model_modes [vp m, .agg (Ks.mk K_u8b s)] [] R w := cs Tryz.func168 (.s .o (.s .o (.b (.l [] (.b (.b (.j [(4, qb)] .o (.s .o (.j [(20, qb)] (.d (.f 0 [0] (.f 1 [21] (.f 2 [22] (.f 3 [23] (.f 4 [24] (.f 5 [25] (.f 6 [0, 26] (.f 7 [26, 27] (.f 8 [26, 28] (.f 9 [26, 29] (.w 10 [26, 30] (.f 11 [26, 31] (.f 12 [26, 32] (.f 13 [33] (.f 14 [3, 34] (.f 16 [0, 34] (.f 15 [34, 35] (.w 17 [34, 37] (.f 18 [34, 36, 38] (.f 19 [34, 39] (.w 20 [40] .fin)))))))))))))))))))))) (.s (.s .o .o) .o)))))))))) h (by kernel_rfl)
def W_bbr_Model_pace (m : Option Pt) (R : Rs.T [] → WP) : WP :=
 call Tryz.prog N_bbr_Model_bw [vp m] [qu] fun (r1 : Int) =>
 ite' (r1 == (0:Int)) (
 R ()) <|
 call Tryz.prog N_bbr_Model_bw [vp m] [qu] fun (r2 : Int) =>
 call Tryz.prog N_bbr_Model_gain [vp m] [qu] fun (r3 : Int) =>
 call Tryz.prog N_target_Rate [vu r2, vu r3] [qu] fun (r4 : Int) =>
 join cb (fun J5 =>
 deref m fun q7 =>
 lo cp q7 2 fun (x8 : Option Pt) =>
 call Tryz.prog N_pipe_Pipe_Full [vp x8] [qb] fun (r9 : Bool) =>
 ite' r9 (
 J5 true) <|
 deref m fun q10 =>
 lo cu q10 8 fun (x11 : Int) =>
 J5 (decide ((if (1:Int) > r4 then (1:Int) else r4) > x11))) fun (y6 : Bool) =>
 ite' y6 (
 deref m fun q12 =>
 so q12 8 [.int .u64 (if (1:Int) > r4 then (1:Int) else r4)] <|
 R ()) <|
 R ()
theorem call_bbr_Model_pace (m : Option Pt) (R : Rs.T [] → WP) (w : World) (h : W_bbr_Model_pace m R w) : CW Tryz.prog N_bbr_Model_pace [vp m] [] R w := cs Tryz.func170 (.s (.s .o (.s .o .o)) (.s .o (.j [(24, qb)] .o (.s .o .o)))) h (by kernel_rfl)
def W_bbr_Model_policed (m : Option Pt) (R : Rs.T [qb] → WP) : WP :=
 deref m fun q1 =>
 lo cp q1 5 fun (x2 : Option Pt) =>
 call Tryz.prog N_policer_Policer_Use [vp x2] [qu, qb] fun (r3 : Int × Bool) =>
 R r3.2
theorem call_bbr_Model_policed (m : Option Pt) (R : Rs.T [qb] → WP) (w : World) (h : W_bbr_Model_policed m R w) : CW Tryz.prog N_bbr_Model_policed [vp m] [qb] R w := cs Tryz.func125 (.s .o (.s .o (.s .o .o))) h (by kernel_rfl)
def W_bbr_Model_recover (d : Option Pt) (o : T_u8b) (a : Bool) (R : Rs.T [] → WP) : WP :=
 new (Ks.mk K_u8b o) fun n1 =>
 join cb (fun J2 =>
 ld cu ⟨n1, 6⟩ fun (x4 : Int) =>
 ite' (decide (x4 > (0:Int))) (
 deref d fun q5 =>
 lo cb q5 11 fun (x6 : Bool) =>
 J2 (!x6)) <|
 J2 false) fun (y3 : Bool) =>
 ite' y3 (
 ld cu ⟨n1, 1⟩ fun (x7 : Int) =>
 ld cu ⟨n1, 7⟩ fun (x8 : Int) =>
 call Tryz.prog N_sat_Add [vu x7, vu x8] [qu] fun (r9 : Int) =>
 deref d fun q10 =>
 so q10 11 [.bool true] <|
 deref d fun q11 =>
 so q11 12 [.bool true] <|
 deref d fun q12 =>
 so q12 13 [.int .u64 r9] <|
 drw <|
 deref d fun q13 =>
 deref d fun q14 =>
 lo cu q13 10 fun (x15 : Int) =>
 lo cu q14 9 fun (x16 : Int) =>
 deref d fun q17 =>
 so q17 10 [.int .u64 (if x16 > x15 then x16 else x15)] <|
 R ()) <|
 deref d fun q18 =>
 lo cb q18 11 fun (x19 : Bool) =>
 ite' x19 (
 deref d fun q20 =>
 lo cb q20 12 fun (x21 : Bool) =>
 deref d fun q22 =>
 so q22 12 [.bool (x21 && (!a))] <|
 drw <|
 ld cu ⟨n1, 1⟩ fun (x23 : Int) =>
 deref d fun q24 =>
 lo cu q24 13 fun (x25 : Int) =>
 ite' (decide (x23 < x25)) (
 R ()) <|
 deref d fun q26 =>
 so q26 11 [.bool false] <|
 deref d fun q27 =>
 so q27 12 [.bool false] <|
 deref d fun q28 =>
 lo ci q28 7 fun (x29 : Int) =>
 ite' (x29 != (3:Int)) (
 call Tryz.prog N_bbr_Model_back [vp d] [] fun (r30 : Unit) =>
 R ()) <|
 R ()) <|
 R ()
theorem call_bbr_Model_recover (d : Option Pt) (o : T_u8b) (a : Bool) (R : Rs.T [] → WP) (w : World) (h : W_bbr_Model_recover d o a R w) : CW Tryz.prog N_bbr_Model_recover [vp d, .agg (Ks.mk K_u8b o), .lf (.bool a)] [] R w := cs Tryz.func171 (.s .o (.b (.j [(6, qb)] .o (.s (.s .o (.d (.f 0 [0] (.f 1 [0] (.f 5 [0] (.f 2 [32] (.f 6 [36] (.f 3 [33] (.f 7 [37] (.f 4 [34] (.f 8 [38] (.f 9 [35, 39] (.f 10 [31] (.f 11 [41] (.w 12 [40, 42] .fin))))))))))))))) (.s .o (.s (.s .o (.s (.s (.d (.f 0 [4] (.f 2 [0] (.f 1 [59] (.f 3 [61] (.f 4 [62] (.f 5 [63] (.f 6 [60, 64] .fin)))))))) (.s .o .o)) (.s .o (.s .o (.s .o .o))))) .o)))))) h (by kernel_rfl)
def W_bbr_Model_wideGain (m : Option Pt) (R : Rs.T [qu] → WP) : WP :=
 deref m fun q1 =>
 lo ci q1 7 fun (x2 : Int) =>
 ite' (x2 == (2:Int)) (
 R (512:Int)) <|
 ite' (x2 == (3:Int)) (
 R (256:Int)) <|
 R (739:Int)
theorem call_bbr_Model_wideGain (m : Option Pt) (R : Rs.T [qu] → WP) (w : World) (h : W_bbr_Model_wideGain m R w) : CW Tryz.prog N_bbr_Model_wideGain [vp m] [qu] R w := cs Tryz.func191 (.s .o (.s (.s .o (.b (.s .o (.s (.s .o .o) (.s .o (.s (.s .o .o) .o)))))) (.s .o .o))) h (by kernel_rfl)
def W_bbr_Model_window (d : Option Pt) (o : T_u8b) (a : Int) (R : Rs.T [] → WP) : WP :=
 new (Ks.mk K_u8b o) fun n1 =>
 drw <|
 deref d fun q2 =>
 ld cu ⟨n1, 6⟩ fun (x3 : Int) =>
 deref d fun q4 =>
 lo cu q2 9 fun (x5 : Int) =>
 lo cu q4 6 fun (x6 : Int) =>
 call Tryz.prog N_sat_Sub [vu x5, vu x3] [qu] fun (r7 : Int) =>
 ck q4 6 cu x6 <|
 deref d fun q8 =>
 so q8 9 [.int .u64 (if x6 > r7 then x6 else r7)] <|
 join [] (fun J9 =>
 deref d fun q11 =>
 lo cb q11 12 fun (x12 : Bool) =>
 ite' x12 (
 drw <|
 deref d fun q13 =>
 ld cu ⟨n1, 7⟩ fun (x14 : Int) =>
 ld cu ⟨n1, 5⟩ fun (x15 : Int) =>
 lo cu q13 9 fun (x16 : Int) =>
 call Tryz.prog N_sat_Add [vu x14, vu x15] [qu] fun (r17 : Int) =>
 ck q13 9 cu x16 <|
 deref d fun q18 =>
 so q18 9 [.int .u64 (if r17 > x16 then r17 else x16)] <|
 J9 ()) <|
 ld cu ⟨n1, 5⟩ fun (x19 : Int) =>
 ite' (decide (x19 > (0:Int))) (
 drw <|
 deref d fun q20 =>
 deref d fun q21 =>
 lo cp q20 4 fun (x22 : Option Pt) =>
 lo cu q21 6 fun (x23 : Int) =>
 call Tryz.prog N_bbr_Model_bw [vp d] [qu] fun (r24 : Int) =>
 ck q21 6 cu x23 <|
 ck q20 4 cp x22 <|
 call Tryz.prog N_probe_Probe_Best [vp x22] [qu] fun (r25 : Int) =>
 ck q21 6 cu x23 <|
 call Tryz.prog N_bbr_Model_wideGain [vp d] [qu] fun (r26 : Int) =>
 ck q21 6 cu x23 <|
 call Tryz.prog N_target_Window [vu r24, vu r25, vu r26, vu a, vu x23] [qu] fun (r27 : Int) =>
 deref d fun q28 =>
 lo cp q28 2 fun (x29 : Option Pt) =>
 call Tryz.prog N_pipe_Pipe_Full [vp x29] [qb] fun (r30 : Bool) =>
 ite' r30 (
 drw <|
 deref d fun q31 =>
 ld cu ⟨n1, 5⟩ fun (x32 : Int) =>
 lo cu q31 9 fun (x33 : Int) =>
 call Tryz.prog N_sat_Add [vu x33, vu x32] [qu] fun (r34 : Int) =>
 deref d fun q35 =>
 so q35 9 [.int .u64 (if r27 < r34 then r27 else r34)] <|
 J9 ()) <|
 join cb (fun J36 =>
 drw <|
 deref d fun q38 =>
 lo cu q38 9 fun (x39 : Int) =>
 ite' (decide (x39 < r27)) (
 J36 true) <|
 ld cu ⟨n1, 1⟩ fun (x40 : Int) =>
 deref d fun q41 =>
 lo cu q41 6 fun (x42 : Int) =>
 J36 (decide (x40 < (IntKind.u64.wrap ((10:Int) * x42))))) fun (y37 : Bool) =>
 ite' y37 (
 drw <|
 deref d fun q43 =>
 ld cu ⟨n1, 5⟩ fun (x44 : Int) =>
 lo cu q43 9 fun (x45 : Int) =>
 call Tryz.prog N_sat_Add [vu x45, vu x44] [qu] fun (r46 : Int) =>
 deref d fun q47 =>
 so q47 9 [.int .u64 r46] <|
 J9 ()) <|
 J9 ()) <|
 J9 ()) fun (y10 : Unit) =>
 drw <|
 deref d fun q48 =>
 lo cu q48 9 fun (x49 : Int) =>
 call Tryz.prog N_bbr_Model_floor [vp d] [qu] fun (r50 : Int) =>
 ck q48 9 cu x49 <|
 deref d fun q51 =>
 so q51 9 [.int .u64 (if r50 > x49 then r50 else x49)] <|
 deref d fun q52 =>
 lo ci q52 7 fun (x53 : Int) =>
 ite' (x53 == (3:Int)) (
 call Tryz.prog N_bbr_Model_floor [vp d] [qu] fun (r54 : Int) =>
 deref d fun q55 =>
 so q55 9 [.int .u64 r54] <|
 R ()) <|
 R ()
theorem call_bbr_Model_window (d : Option Pt) (o : T_u8b) (a : Int) (R : Rs.T [] → WP) (w : World) (h : W_bbr_Model_window d o a R w) : CW Tryz.prog N_bbr_Model_window [vp d, .agg (Ks.mk K_u8b o), vu a] [] R w := cs Tryz.func172 (.s .o (.s (.d (.f 0 [0] (.f 1 [0] (.f 5 [4] (.f 8 [0] (.f 2 [8] (.f 6 [12] (.f 9 [15] (.f 3 [9] (.f 10 [16] (.f 4 [10] (.f 11 [17] (.w 7 [11, 13] (.f 12 [14, 18] (.f 13 [7] (.f 14 [20] (.w 15 [19, 21] .fin))))))))))))))))) (.j [] (.s .o (.s (.d (.f 0 [0] (.f 1 [0] (.f 5 [4] (.f 7 [4] (.f 2 [27] (.f 6 [31] (.f 8 [33] (.f 3 [28] (.f 4 [29] (.w 9 [32, 34] (.f 10 [30, 35] (.f 11 [26] (.f 12 [37] (.w 13 [36, 38] .fin))))))))))))))) (.s .o (.s (.s (.d (.f 0 [0] (.f 2 [0] (.f 7 [0] (.f 9 [2] (.f 10 [0] (.f 3 [44] (.f 11 [52] (.f 4 [45] (.f 12 [53] (.f 5 [46] (.f 13 [54] (.w 1 [42] (.w 6 [47] (.w 8 [49] (.w 14 [43, 48, 50, 51, 55] (.w 15 [56] .fin))))))))))))))))) (.s .o (.s (.d (.f 0 [0] (.f 1 [0] (.f 5 [4] (.f 8 [6] (.f 2 [63] (.f 6 [67] (.f 3 [64] (.f 4 [65] (.w 7 [66, 68] (.f 9 [69, 70] (.f 10 [62] (.f 11 [72] (.w 12 [71, 73] .fin)))))))))))))) (.j [(89, qb)] (.d (.f 0 [0] (.f 4 [6] (.f 1 [74] (.f 2 [75] (.f 3 [76] (.f 5 [77, 78] (.f 6 [79] (.f 7 [4, 80] (.f 9 [0, 80] (.f 8 [80, 81] (.f 10 [80, 83] (.f 11 [80, 84] (.f 12 [80, 85] (.f 13 [80, 86] (.f 14 [80, 82, 87] (.f 15 [80, 88] .fin))))))))))))))))) (.s (.d (.f 0 [0] (.f 1 [0] (.f 5 [4] (.f 2 [91] (.f 6 [95] (.f 3 [92] (.f 4 [93] (.w 7 [94, 96] (.f 8 [90] (.f 9 [98] (.w 10 [97, 99] .fin)))))))))))) .o))))) .o)))) (.s (.d (.f 0 [0] (.f 1 [0] (.f 5 [0] (.f 2 [101] (.f 3 [102] (.f 4 [103] (.w 6 [105] (.f 7 [104, 106] (.f 8 [100] (.f 9 [108] (.w 10 [107, 109] .fin)))))))))))) (.s .o (.s .o .o)))))) h (by kernel_rfl)
def W_bbr_New (mss : Int) (R : Rs.T [qp] → WP) : WP :=
 call Tryz.prog N_winmax_New [.lf (.int .u64 (10:Int))] [qp] fun (r1 : Option Pt) =>
 call Tryz.prog N_rounds_New [] [qp] fun (r2 : Option Pt) =>
 call Tryz.prog N_pipe_New [] [qp] fun (r3 : Option Pt) =>
 call Tryz.prog N_cycle_New [] [qp] fun (r4 : Option Pt) =>
 call Tryz.prog N_probe_New [] [qp] fun (r5 : Option Pt) =>
 call Tryz.prog N_policer_New [] [qp] fun (r6 : Option Pt) =>
 new [.ptr r1, .ptr r2, .ptr r3, .ptr r4, .ptr r5, .ptr r6, .int .u64 (if (9000:Int) < (if (100:Int) > mss then (100:Int) else mss) then (9000:Int) else (if (100:Int) > mss then (100:Int) else mss)), zi, zu, zu, zu, .bool false, .bool false, zu] fun n7 =>
 deref (some ⟨n7, 0⟩) fun q8 =>
 so q8 9 [.int .u64 (IntKind.u64.wrap ((10:Int) * (if (9000:Int) < (if (100:Int) > mss then (100:Int) else mss) then (9000:Int) else (if (100:Int) > mss then (100:Int) else mss))))] <|
 deref (some ⟨n7, 0⟩) fun q9 =>
 lo cu q9 9 fun (x10 : Int) =>
 call Tryz.prog N_target_Rate [.lf (.int .u64 (IntKind.u64.wrap (x10 * (1000:Int)))), .lf (.int .u64 (739:Int))] [qu] fun (r11 : Int) =>
 deref (some ⟨n7, 0⟩) fun q12 =>
 so q12 8 [.int .u64 r11] <|
 R (some ⟨n7, 0⟩)
theorem call_bbr_New (mss : Int) (R : Rs.T [qp] → WP) (w : World) (h : W_bbr_New mss R w) : CW Tryz.prog N_bbr_New [vu mss] [qp] R w := cs Tryz.func59 (.s .o (.s .o (.s .o (.s .o (.s .o (.s .o .o)))))) h (by kernel_rfl)
def W_board_Board_Ack (d : Option Pt) (o : Int) (a : Sl) (R : Rs.T [qs, qu, qi] → WP) : WP :=
 ite' d.isNone (
 R (⟨none, 0, 0⟩, (0:Int), (2:Int))) <|
 call Tryz.prog N_board_Board_may [vp d, vu o, .lf (.sl a)] [qb] fun (r1 : Bool) =>
 ite' (!r1) (
 R (⟨none, 0, 0⟩, (0:Int), (11:Int))) <|
 deref d fun q2 =>
 ld cl q2 fun (x3 : Sl) =>
 loop K_s2i (⟨none, 0, 0⟩, ⟨none, 0, 0⟩, (0:Int)) fun J4 (y5 : T_s2i) =>
 ite' (decide (y5.2.2 < ((x3.len : Nat) : Int))) (
 idx x3 y5.2.2 9 fun q6 =>
 ld K_u6b3 q6 fun (x7 : T_u6b3) =>
 new [zu, zu, zu, zu, zu, zu, .bool false, .bool false, .bool false] fun n8 =>
 st ⟨n8, 0⟩ (Ks.mk K_u6b3 x7) <|
 ld cu ⟨n8, 1⟩ fun (x9 : Int) =>
 join cl (fun J10 =>
 join cb (fun J12 =>
 ld cb ⟨n8, 7⟩ fun (x14 : Bool) =>
 ite' (!x14) (
 ite' (decide (x9 ≤ o)) (
 J12 true) <|
 ld K_u6b3 ⟨n8, 0⟩ fun (x15 : T_u6b3) =>
 call Tryz.prog N_board_holds [.lf (.sl a), .agg (Ks.mk K_u6b3 x15)] [qb] fun (r16 : Bool) =>
 J12 r16) <|
 J12 false) fun (y13 : Bool) =>
 ite' y13 (
 ld K_u6b3 ⟨n8, 0⟩ fun (x17 : T_u6b3) =>
 new [.int .u64 x17.1, .int .u64 x17.2.1, .int .u64 x17.2.2.1, .int .u64 x17.2.2.2.1, .int .u64 x17.2.2.2.2.1, .int .u64 x17.2.2.2.2.2.1, .bool x17.2.2.2.2.2.2.1, .bool x17.2.2.2.2.2.2.2.1, .bool x17.2.2.2.2.2.2.2.2] fun n18 =>
 app 9 y5.1 ⟨some ⟨n18, 0⟩, 1, 1⟩ fun s19 =>
 st ⟨n8, 7⟩ [.bool true] <|
 st ⟨n8, 8⟩ [.bool false] <|
 J10 s19) <|
 J10 y5.1) fun (y11 : Sl) =>
 ite' (decide (x9 ≤ o)) (
 J4 (y11, y5.2.1, (IntKind.i64.wrap (y5.2.2 + (1:Int))))) <|
 ld K_u6b3 ⟨n8, 0⟩ fun (x20 : T_u6b3) =>
 new [.int .u64 x20.1, .int .u64 x20.2.1, .int .u64 x20.2.2.1, .int .u64 x20.2.2.2.1, .int .u64 x20.2.2.2.2.1, .int .u64 x20.2.2.2.2.2.1, .bool x20.2.2.2.2.2.2.1, .bool x20.2.2.2.2.2.2.2.1, .bool x20.2.2.2.2.2.2.2.2] fun n21 =>
 app 9 y5.2.1 ⟨some ⟨n21, 0⟩, 1, 1⟩ fun s22 =>
 J4 (y11, s22, (IntKind.i64.wrap (y5.2.2 + (1:Int))))) <|
 deref d fun q23 =>
 st q23 [.sl y5.2.1] <|
 call Tryz.prog N_board_Board_passed [vp d] [qu] fun (r24 : Int) =>
 R (y5.1, r24, (0:Int))
theorem call_board_Board_Ack (d : Option Pt) (o : Int) (a : Sl) (R : Rs.T [qs, qu, qi] → WP) (w : World) (h : W_board_Board_Ack d o a R w) : CW Tryz.prog N_board_Board_Ack [vp d, vu o, .lf (.sl a)] [qs, qu, qi] R w := cs Tryz.func91 (.s .o (.s (.b (.s .o (.s (.s .o .o) (.s .o (.s (.s .o .o) .o))))) (.s .o (.s .o (.s (.s .o (.b (.l [(9, qs), (10, qs), (28, qi)] (.s .o (.s (.s .o .o) (.s (.b (.s .o (.s .o (.j [(9, qs)] (.j [(46, qb)] .o (.s (.s .o .o) .o)) (.s (.s .o (.s .o .o)) .o))))) .o)))))) (.s .o (.s .o .o))))))) h (by kernel_rfl)
def W_board_Board_Again (b : Option Pt) (s : T_u4b) (R : Rs.T [.agg [.int .u64, .int .u64], qb] → WP) : WP :=
 new (Ks.mk K_u4b s) fun n1 =>
 new [zu, zu] fun n2 =>
 call Tryz.prog N_board_Board_Lost [vp b] [.agg [.int .u64, .int .u64], qb] fun (r3 : (Int × Int) × Bool) =>
 new [zu, zu] fun n4 =>
 st ⟨n4, 0⟩ (Ks.mk cr r3.1) <|
 join [] (fun J5 =>
 ite' r3.2 (
 drw <|
 deref b fun q7 =>
 ld cl q7 fun (x8 : Sl) =>
 call Tryz.prog N_board_Board_lost [vp b] [qi] fun (r9 : Int) =>
 chk q7 (Ks.mk cl x8) <|
 idx x8 r9 9 fun q10 =>
 drw <|
 ld K_u4b ⟨n1, 0⟩ fun (x11 : T_u4b) =>
 deref (some q10) fun q12 =>
 so q12 8 [.bool false] <|
 chk ⟨n1, 0⟩ (Ks.mk K_u4b x11) <|
 deref (some q10) fun q13 =>
 so q13 2 (Ks.mk K_u4b x11) <|
 J5 ()) <|
 J5 ()) fun (y6 : Unit) =>
 ld cr ⟨n4, 0⟩ fun (x14 : Int × Int) =>
 st ⟨n2, 0⟩ (Ks.mk cr x14) <|
 ld cr ⟨n2, 0⟩ fun (x15 : Int × Int) =>
 R (x15, r3.2)
theorem call_board_Board_Again (b : Option Pt) (s : T_u4b) (R : Rs.T [.agg [.int .u64, .int .u64], qb] → WP) (w : World) (h : W_board_Board_Again b s R w) : CW Tryz.prog N_board_Board_Again [vp b, .agg (Ks.mk K_u4b s)] [.agg [.int .u64, .int .u64], qb] R w := cs Tryz.func99 (.s .o (.s .o (.j [] (.s .o (.s (.s (.d (.f 0 [0] (.f 4 [0] (.f 1 [15] (.f 2 [16] (.f 3 [17] (.w 5 [19] (.f 6 [18, 20] (.w 7 [21] .fin))))))))) (.d (.f 0 [8] (.f 1 [8] (.f 2 [3] (.f 3 [22] (.f 4 [25] (.w 5 [26] (.f 6 [23] (.f 7 [27] (.w 8 [24, 28] .fin))))))))))) .o)) (.s .o .o)))) h (by kernel_rfl)
def W_board_Board_All (b : Option Pt) (R : Rs.T [.lf .fn] → WP) : WP :=
 new [.ptr b] fun n1 =>
 R (.mk (.func N_board_Board_All_c1) [] [V1.enc (.lf (.ptr (some ⟨n1, 0⟩)))])
theorem call_board_Board_All (b : Option Pt) (R : Rs.T [.lf .fn] → WP) (w : World) (h : W_board_Board_All b R w) : CW Tryz.prog N_board_Board_All [vp b] [.lf .fn] R w := cs Tryz.func174 (.s .o (.s .o .o)) h (by kernel_rfl)
def W_board_Board_All_c1 (yield : Fv) (c0 : Pt) (R : Rs.T [] → WP) : WP :=
 ld cp c0 fun (x1 : Option Pt) =>
 ite' x1.isNone (
 R ()) <|
 ld cp c0 fun (x2 : Option Pt) =>
 deref x2 fun q3 =>
 ld cl q3 fun (x4 : Sl) =>
 loop ci (0:Int) fun J5 (y6 : Int) =>
 ite' (decide (y6 < ((x4.len : Nat) : Int))) (
 idx x4 y6 9 fun q7 =>
 ld K_u6b3 q7 fun (x8 : T_u6b3) =>
 new [zu, zu, zu, zu, zu, zu, .bool false, .bool false, .bool false] fun n9 =>
 st ⟨n9, 0⟩ (Ks.mk K_u6b3 x8) <|
 ld K_u6b3 ⟨n9, 0⟩ fun (x10 : T_u6b3) =>
 callv Tryz.prog yield [.agg (Ks.mk K_u6b3 x10)] [qb] fun (r11 : Bool) =>
 ite' (!r11) (
 R ()) <|
 J5 (IntKind.i64.wrap (y6 + (1:Int)))) <|
 R ()
theorem call_board_Board_All_c1 (yield : Fv) (c0 : Pt) (R : Rs.T [] → WP) (w : World) (h : W_board_Board_All_c1 yield c0 R w) : CW Tryz.prog N_board_Board_All_c1 [.lf (.fn yield), .lf (.ptr (some c0))] [] R w := cs Tryz.func192 (.s (.s .o (.s .o .o)) (.s .o (.b (.l [(12, qi)] (.s .o (.s (.s .o .o) (.s (.b (.s .o (.s .o (.s .o .o)))) .o))))))) h (by kernel_rfl)
def W_board_Board_Flight (n0 : Nat) (b : Option Pt) (R : Rs.T [qu] → WP) : WP :=
 new [zu] fun n1 =>
 st ⟨n1, 0⟩ [zu] <|
 call Tryz.prog N_board_Board_All [vp b] [.lf .fn] fun (r2 : Fv) =>
 rangeF Tryz.prog r2 [.agg K_u6b3] (fun (v3 : T_u6b3) mid4 next5 jump6 =>
 new [zu, zu, zu, zu, zu, zu, .bool false, .bool false, .bool false] fun n7 =>
 st ⟨n7, 0⟩ (Ks.mk K_u6b3 v3) <|
 mid4 <|
 ld K_u6b3 ⟨n7, 0⟩ fun (x8 : T_u6b3) =>
 call Tryz.prog N_board_flying [.agg (Ks.mk K_u6b3 x8)] [qb] fun (r9 : Bool) =>
 ite' r9 (
 ld cu ⟨n1, 0⟩ fun (x10 : Int) =>
 ld cu ⟨n7, 1⟩ fun (x11 : Int) =>
 ld cu ⟨n7, 0⟩ fun (x12 : Int) =>
 st ⟨n1, 0⟩ [.int .u64 (IntKind.u64.wrap (x10 + (IntKind.u64.wrap (x11 - x12))))] <|
 next5) <|
 next5) fun i13 => isBy 0 i13 (ld cu ⟨n1, 0⟩ fun (x14 : Int) =>
 leave n0 <| R x14) <|
 wno
theorem call_board_Board_Flight (b : Option Pt) (R : Rs.T [qu] → WP) (w : World) (h : W_board_Board_Flight w.heap.size b R w) : CW Tryz.prog N_board_Board_Flight [vp b] [qu] R w := cs (A := fun w => W_board_Board_Flight w.heap.size b R w) Tryz.func141 (.s .o (.s .o (.s (.s .o (.b (.r [.agg K_u6b3] .o (.b (.s .o (.s .o .o)))))) (.s .o .o)))) h (by kernel_rfl)
def W_board_Board_Len (b : Option Pt) (R : Rs.T [qi] → WP) : WP :=
 ite' b.isNone (
 R (0:Int)) <|
 deref b fun q1 =>
 ld cl q1 fun (x2 : Sl) =>
 R ((x2.len : Nat) : Int)
theorem call_board_Board_Len (b : Option Pt) (R : Rs.T [qi] → WP) (w : World) (h : W_board_Board_Len b R w) : CW Tryz.prog N_board_Board_Len [vp b] [qi] R w := cs Tryz.func140 (.s .o (.s (.s .o (.s (.s .o .o) .o)) (.s .o .o))) h (by kernel_rfl)
def W_board_Board_Lose (b : Option Pt) (R : Rs.T [qu] → WP) : WP :=
 ite' b.isNone (
 R (0:Int)) <|
 deref b fun q1 =>
 ld cl q1 fun (x2 : Sl) =>
 loop [.int .u64, .int .i64] ((0:Int), (0:Int)) fun J3 (y4 : Int × Int) =>
 ite' (decide (y4.2 < ((x2.len : Nat) : Int))) (
 idx x2 y4.2 9 fun q5 =>
 ld K_u6b3 q5 fun (x6 : T_u6b3) =>
 new [zu, zu, zu, zu, zu, zu, .bool false, .bool false, .bool false] fun n7 =>
 st ⟨n7, 0⟩ (Ks.mk K_u6b3 x6) <|
 ld K_u6b3 ⟨n7, 0⟩ fun (x8 : T_u6b3) =>
 call Tryz.prog N_board_flying [.agg (Ks.mk K_u6b3 x8)] [qb] fun (r9 : Bool) =>
 ite' r9 (
 deref b fun q10 =>
 ld cl q10 fun (x11 : Sl) =>
 idx x11 y4.2 9 fun q12 =>
 so q12 8 [.bool true] <|
 ld cu ⟨n7, 1⟩ fun (x13 : Int) =>
 ld cu ⟨n7, 0⟩ fun (x14 : Int) =>
 J3 ((IntKind.u64.wrap (y4.1 + (IntKind.u64.wrap (x13 - x14)))), (IntKind.i64.wrap (y4.2 + (1:Int))))) <|
 J3 (y4.1, (IntKind.i64.wrap (y4.2 + (1:Int))))) <|
 R y4.1
theorem call_board_Board_Lose (b : Option Pt) (R : Rs.T [qu] → WP) (w : World) (h : W_board_Board_Lose b R w) : CW Tryz.prog N_board_Board_Lose [vp b] [qu] R w := cs Tryz.func95 (.s .o (.s (.s .o (.s (.s .o .o) .o)) (.s .o (.s (.s .o (.b (.l [(3, qu), (13, qi)] (.s .o (.s (.s .o .o) (.s (.b (.s .o (.s .o (.s (.s .o .o) .o)))) .o)))))) (.s .o .o))))) h (by kernel_rfl)
def W_board_Board_Lost (b : Option Pt) (R : Rs.T [.agg [.int .u64, .int .u64], qb] → WP) : WP :=
 new [zu, zu] fun n1 =>
 call Tryz.prog N_board_Board_lost [vp b] [qi] fun (r2 : Int) =>
 ite' (decide (r2 < (0:Int))) (
 st ⟨n1, 0⟩ [zu, zu] <|
 ld cr ⟨n1, 0⟩ fun (x3 : Int × Int) =>
 R (x3, false)) <|
 drw <|
 deref b fun q4 =>
 deref b fun q5 =>
 ld cl q4 fun (x6 : Sl) =>
 ld cl q5 fun (x7 : Sl) =>
 idx x6 r2 9 fun q8 =>
 idx x7 r2 9 fun q9 =>
 ld cu q8 fun (x10 : Int) =>
 lo cu q9 1 fun (x11 : Int) =>
 st ⟨n1, 0⟩ [.int .u64 x10, .int .u64 x11] <|
 ld cr ⟨n1, 0⟩ fun (x12 : Int × Int) =>
 R (x12, true)
theorem call_board_Board_Lost (b : Option Pt) (R : Rs.T [.agg [.int .u64, .int .u64], qb] → WP) (w : World) (h : W_board_Board_Lost b R w) : CW Tryz.prog N_board_Board_Lost [vp b] [.agg [.int .u64, .int .u64], qb] R w := cs Tryz.func135 (.s .o (.s .o (.s (.s .o (.s (.s .o .o) .o)) (.s (.d (.f 0 [0] (.f 4 [4] (.f 8 [0] (.f 12 [4] (.f 1 [10] (.f 9 [18] (.f 2 [11] (.f 10 [19] (.f 3 [12] (.f 11 [20] (.f 5 [13, 14] (.f 13 [21, 22] (.f 6 [15] (.f 14 [23] (.f 7 [16] (.f 15 [24] (.f 16 [17, 25] (.w 17 [2, 26] (.w 18 [] .fin)))))))))))))))))))) .o)))) h (by kernel_rfl)
def W_board_Board_Sent (b : Option Pt) (from' : Int) (to' : Int) (s : T_u4b) (R : Rs.T [qi] → WP) : WP :=
 new (Ks.mk K_u4b s) fun n1 =>
 ite' b.isNone (
 R (2:Int)) <|
 deref b fun q2 =>
 lo cu q2 1 fun (x3 : Int) =>
 ite' ((from' != x3) || (decide (to' ≤ from'))) (
 R (1:Int)) <|
 deref b fun q4 =>
 ld cl q4 fun (x5 : Sl) =>
 ite' (decide (((x5.len : Nat) : Int) ≥ (4096:Int))) (
 R (5:Int)) <|
 drw <|
 ld K_u4b ⟨n1, 0⟩ fun (x6 : T_u4b) =>
 deref b fun q7 =>
 ld cl q7 fun (x8 : Sl) =>
 new [.int .u64 from', .int .u64 to', .int .u64 x6.1, .int .u64 x6.2.1, .int .u64 x6.2.2.1, .int .u64 x6.2.2.2.1, .bool x6.2.2.2.2, .bool false, .bool false] fun n9 =>
 chk q7 (Ks.mk cl x8) <|
 app 9 x8 ⟨some ⟨n9, 0⟩, 1, 1⟩ fun s10 =>
 deref b fun q11 =>
 st q11 [.sl s10] <|
 deref b fun q12 =>
 so q12 1 [.int .u64 to'] <|
 R (0:Int)
theorem call_board_Board_Sent (b : Option Pt) (from' : Int) (to' : Int) (s : T_u4b) (R : Rs.T [qi] → WP) (w : World) (h : W_board_Board_Sent b from' to' s R w) : CW Tryz.prog N_board_Board_Sent [vp b, .lf (.int .u64 from'), .lf (.int .u64 to'), .agg (Ks.mk K_u4b s)] [qi] R w := cs Tryz.func102 (.s .o (.s (.b (.s .o (.s (.s .o .o) (.s .o (.s (.s .o .o) (.s .o (.s (.s .o .o) .o))))))) (.s (.d (.f 0 [0] (.f 1 [0] (.f 5 [1] (.f 6 [2] (.f 7 [7] (.f 2 [32] (.f 8 [36, 37, 38] (.f 3 [33] (.f 4 [34] (.w 9 [39] (.w 10 [35, 40] (.f 11 [31] (.f 12 [42] (.w 13 [41, 43] .fin))))))))))))))) (.s .o (.s .o .o))))) h (by kernel_rfl)
def W_board_Board_lost (n0 : Nat) (b : Option Pt) (R : Rs.T [qi] → WP) : WP :=
 new [zi] fun n1 =>
 new [zi] fun n2 =>
 st ⟨n2, 0⟩ [zi] <|
 call Tryz.prog N_board_Board_All [vp b] [.lf .fn] fun (r3 : Fv) =>
 rangeF Tryz.prog r3 [.agg K_u6b3] (fun (v4 : T_u6b3) mid5 next6 jump7 =>
 new [zu, zu, zu, zu, zu, zu, .bool false, .bool false, .bool false] fun n8 =>
 st ⟨n8, 0⟩ (Ks.mk K_u6b3 v4) <|
 mid5 <|
 ld cb ⟨n8, 8⟩ fun (x9 : Bool) =>
 ite' x9 (
 ld ci ⟨n2, 0⟩ fun (x10 : Int) =>
 st ⟨n1, 0⟩ [.int .i64 x10] <|
 jump7 1) <|
 ld ci ⟨n2, 0⟩ fun (x11 : Int) =>
 st ⟨n2, 0⟩ [.int .i64 (IntKind.i64.wrap (x11 + (1:Int)))] <|
 next6) fun i12 => isBy 0 i12 (st ⟨n1, 0⟩ [.int .i64 (-1:Int)] <|
 ld ci ⟨n1, 0⟩ fun (x13 : Int) =>
 leave n0 <| R x13) <|
 isBy 1 i12 (ld ci ⟨n1, 0⟩ fun (x14 : Int) =>
 leave n0 <| R x14) <|
 wno
theorem call_board_Board_lost (b : Option Pt) (R : Rs.T [qi] → WP) (w : World) (h : W_board_Board_lost w.heap.size b R w) : CW Tryz.prog N_board_Board_lost [vp b] [qi] R w := cs (A := fun w => W_board_Board_lost w.heap.size b R w) Tryz.func142 (.s .o (.s .o (.s (.s .o (.b (.r [.agg K_u6b3] .o (.b (.s (.s .o (.s (.s .o .o) .o)) .o))))) (.s .o .o)))) h (by kernel_rfl)
def W_board_Board_may (b : Option Pt) (upto : Int) (sacks : Sl) (R : Rs.T [qb] → WP) : WP :=
 new [.ptr b] fun n1 =>
 ld cp ⟨n1, 0⟩ fun (x2 : Option Pt) =>
 deref x2 fun q3 =>
 lo cu q3 1 fun (x4 : Int) =>
 ite' (decide (upto ≤ x4)) (
 call Tryz.prog N_slices_ContainsFunc_sapiRangeapiRange [.lf (.sl sacks), .lf (.fn (.mk (.func N_board_Board_may_c1) [] [V1.enc (.lf (.ptr (some ⟨n1, 0⟩)))]))] [qb] fun (r5 : Bool) =>
 R (!r5)) <|
 R false
theorem call_board_Board_may (b : Option Pt) (upto : Int) (sacks : Sl) (R : Rs.T [qb] → WP) (w : World) (h : W_board_Board_may b upto sacks R w) : CW Tryz.prog N_board_Board_may [vp b, vu upto, .lf (.sl sacks)] [qb] R w := cs Tryz.func128 (.s .o (.s .o .o)) h (by kernel_rfl)
def W_board_Board_may_c1 (r : Int × Int) (c0 : Pt) (R : Rs.T [qb] → WP) : WP :=
 new (Ks.mk cr r) fun n1 =>
 drw <|
 ld cp c0 fun (x2 : Option Pt) =>
 ld cu ⟨n1, 1⟩ fun (x3 : Int) =>
 deref x2 fun q4 =>
 lo cu q4 1 fun (x5 : Int) =>
 ite' (decide (x3 > x5)) (
 R true) <|
 ld cu ⟨n1, 0⟩ fun (x6 : Int) =>
 ld cu ⟨n1, 1⟩ fun (x7 : Int) =>
 R (decide (x6 ≥ x7))
theorem call_board_Board_may_c1 (r : Int × Int) (c0 : Pt) (R : Rs.T [qb] → WP) (w : World) (h : W_board_Board_may_c1 r c0 R w) : CW Tryz.prog N_board_Board_may_c1 [.agg (Ks.mk cr r), .lf (.ptr (some c0))] [qb] R w := cs Tryz.func160 (.s .o (.s (.d (.f 0 [2] (.f 2 [1] (.f 1 [4] (.f 3 [6] (.f 4 [7] (.f 5 [8] (.f 6 [5, 9] (.f 7 [10] (.f 8 [2, 11] (.f 10 [2, 11] (.f 9 [11, 12] (.f 11 [11, 14] (.f 12 [11, 13, 15] (.f 13 [11, 16] (.w 14 [17] .fin)))))))))))))))) .o)) h (by kernel_rfl)
def W_board_Board_passed (b : Option Pt) (R : Rs.T [qu] → WP) : WP :=
 deref b fun q1 =>
 ld cl q1 fun (x2 : Sl) =>
 loop K_ui2 ((0:Int), (0:Int), (IntKind.i64.wrap (((x2.len : Nat) : Int) - (1:Int)))) fun J3 (y4 : T_ui2) =>
 ite' (decide (y4.2.2 ≥ (0:Int))) (
 deref b fun q5 =>
 ld cl q5 fun (x6 : Sl) =>
 idx x6 y4.2.2 9 fun q7 =>
 join ci (fun J8 =>
 deref (some q7) fun q10 =>
 lo cb q10 7 fun (x11 : Bool) =>
 ite' x11 (
 J8 (IntKind.i64.wrap (y4.2.1 + (1:Int)))) <|
 J8 y4.2.1) fun (y9 : Int) =>
 deref (some q7) fun q12 =>
 ld K_u6b3 q12 fun (x13 : T_u6b3) =>
 call Tryz.prog N_board_flying [.agg (Ks.mk K_u6b3 x13)] [qb] fun (r14 : Bool) =>
 ite' (r14 && (decide (y9 ≥ (3:Int)))) (
 deref (some q7) fun q15 =>
 so q15 8 [.bool true] <|
 drw <|
 deref (some q7) fun q16 =>
 deref (some q7) fun q17 =>
 lo cu q16 1 fun (x18 : Int) =>
 ld cu q17 fun (x19 : Int) =>
 J3 ((IntKind.u64.wrap (y4.1 + (IntKind.u64.wrap (x18 - x19)))), y9, (IntKind.i64.wrap (y4.2.2 - (1:Int))))) <|
 J3 (y4.1, y9, (IntKind.i64.wrap (y4.2.2 - (1:Int))))) <|
 R y4.1
theorem call_board_Board_passed (b : Option Pt) (R : Rs.T [qu] → WP) (w : World) (h : W_board_Board_passed b R w) : CW Tryz.prog N_board_Board_passed [vp b] [qu] R w := cs Tryz.func130 (.s .o (.s .o (.s (.s .o (.b (.l [(3, qu), (4, qi), (5, qi)] (.s (.s .o (.s .o .o)) (.s (.b (.s .o (.j [(4, qi)] (.s .o (.s .o .o)) (.s .o (.s (.s .o (.d (.f 0 [3] (.f 1 [6] (.f 5 [6] (.f 2 [41] (.f 6 [45] (.f 3 [42] (.f 7 [46] (.f 4 [43] (.f 8 [47] (.f 9 [44, 48] (.f 10 [40, 49] (.w 11 [50] .fin)))))))))))))) .o))))) .o))))) (.s .o .o)))) h (by kernel_rfl)
def W_board_New  (R : Rs.T [qp] → WP) : WP :=
 new [.sl ⟨none, 0, 0⟩, zu] fun n1 =>
 R (some ⟨n1, 0⟩)
theorem call_board_New  (R : Rs.T [qp] → WP) (w : World) (h : W_board_New  R w) : CW Tryz.prog N_board_New [] [qp] R w := cs Tryz.func57 (.s .o (.s .o .o)) h (by kernel_rfl)
def W_board_flying (p : T_u6b3) (R : Rs.T [qb] → WP) : WP :=
 new (Ks.mk K_u6b3 p) fun n1 =>
 ld cb ⟨n1, 7⟩ fun (x2 : Bool) =>
 ite' (!x2) (
 ld cb ⟨n1, 8⟩ fun (x3 : Bool) =>
 R (!x3)) <|
 R false
theorem call_board_flying (p : T_u6b3) (R : Rs.T [qb] → WP) (w : World) (h : W_board_flying p R w) : CW Tryz.prog N_board_flying [.agg (Ks.mk K_u6b3 p)] [qb] R w := cs Tryz.func134 (.s .o (.s .o .o)) h (by kernel_rfl)
def W_board_holds (sacks : Sl) (p : T_u6b3) (R : Rs.T [qb] → WP) : WP :=
 new (Ks.mk K_u6b3 p) fun n1 =>
 call Tryz.prog N_slices_ContainsFunc_sapiRangeapiRange [.lf (.sl sacks), .lf (.fn (.mk (.func N_board_holds_c1) [] [V1.enc (.lf (.ptr (some ⟨n1, 0⟩)))]))] [qb] fun (r2 : Bool) =>
 R r2
theorem call_board_holds (sacks : Sl) (p : T_u6b3) (R : Rs.T [qb] → WP) (w : World) (h : W_board_holds sacks p R w) : CW Tryz.prog N_board_holds [.lf (.sl sacks), .agg (Ks.mk K_u6b3 p)] [qb] R w := cs Tryz.func129 (.s .o (.s .o .o)) h (by kernel_rfl)
def W_board_holds_c1 (r : Int × Int) (c0 : Pt) (R : Rs.T [qb] → WP) : WP :=
 new (Ks.mk cr r) fun n1 =>
 ld cu ⟨n1, 0⟩ fun (x2 : Int) =>
 ld cu c0 fun (x3 : Int) =>
 ite' (decide (x2 ≤ x3)) (
 ld cu ⟨n1, 1⟩ fun (x4 : Int) =>
 ld cu ⟨c0.b, c0.o + 1⟩ fun (x5 : Int) =>
 R (decide (x4 ≥ x5))) <|
 R false
theorem call_board_holds_c1 (r : Int × Int) (c0 : Pt) (R : Rs.T [qb] → WP) (w : World) (h : W_board_holds_c1 r c0 R w) : CW Tryz.prog N_board_holds_c1 [.agg (Ks.mk cr r), .lf (.ptr (some c0))] [qb] R w := cs Tryz.func161 (.s .o (.s .o .o)) h (by kernel_rfl)
def W_buffer_Buffer_Acked (b : Option Pt) (upto : Int) (R : Rs.T [qi] → WP) : WP :=
 ite' b.isNone (
 R (2:Int)) <|
 deref b fun q1 =>
 lo cu q1 1 fun (x2 : Int) =>
 ite' (decide (upto > x2)) (
 R (11:Int)) <|
 deref b fun q3 =>
 lo cu q3 2 fun (x4 : Int) =>
 deref b fun q5 =>
 so q5 2 [.int .u64 (if upto > x4 then upto else x4)] <|
 R (0:Int)
theorem call_buffer_Buffer_Acked (b : Option Pt) (upto : Int) (R : Rs.T [qi] → WP) (w : World) (h : W_buffer_Buffer_Acked b upto R w) : CW Tryz.prog N_buffer_Buffer_Acked [vp b, vu upto] [qi] R w := cs Tryz.func92 (.s .o (.s (.b (.s .o (.s (.s .o .o) (.s .o (.s (.s .o .o) .o))))) (.s .o (.s .o .o)))) h (by kernel_rfl)
def W_buffer_Buffer_Held (b : Option Pt) (R : Rs.T [qu] → WP) : WP :=
 ite' b.isNone (
 R (0:Int)) <|
 drw <|
 deref b fun q1 =>
 deref b fun q2 =>
 ld cu q1 fun (x3 : Int) =>
 lo cu q2 2 fun (x4 : Int) =>
 R (IntKind.u64.wrap (x3 - x4))
theorem call_buffer_Buffer_Held (b : Option Pt) (R : Rs.T [qu] → WP) (w : World) (h : W_buffer_Buffer_Held b R w) : CW Tryz.prog N_buffer_Buffer_Held [vp b] [qu] R w := cs Tryz.func127 (.s .o (.s (.s .o (.s (.s .o .o) .o)) (.s (.d (.f 0 [0] (.f 4 [0] (.f 1 [5] (.f 5 [9] (.f 2 [6] (.f 6 [10] (.f 3 [7] (.f 7 [11] (.f 8 [8, 12] (.w 9 [13] .fin))))))))))) .o))) h (by kernel_rfl)
def W_buffer_Buffer_Take (b : Option Pt) (most : Int) (R : Rs.T [.agg [.int .u64, .int .u64], qb] → WP) : WP :=
 new [zu, zu] fun n1 =>
 new [zu, zu] fun n2 =>
 st ⟨n2, 0⟩ [zu, zu] <|
 join cb (fun J3 =>
 loop cb false fun J5 (y6 : Bool) =>
 ite' (decide (most ≥ (1:Int))) (
 call Tryz.prog N_buffer_Buffer_Unsent [vp b] [qu] fun (r7 : Int) =>
 ite' ((if r7 < (IntKind.u64.wrap most) then r7 else (IntKind.u64.wrap most)) == (0:Int)) (
 J3 y6) <|
 drw <|
 deref b fun q8 =>
 deref b fun q9 =>
 lo cu q8 1 fun (x10 : Int) =>
 lo cu q9 1 fun (x11 : Int) =>
 st ⟨n2, 0⟩ [.int .u64 x10, .int .u64 (IntKind.u64.wrap (x11 + (if r7 < (IntKind.u64.wrap most) then r7 else (IntKind.u64.wrap most))))] <|
 deref b fun q12 =>
 lo cu q12 1 fun (x13 : Int) =>
 deref b fun q14 =>
 so q14 1 [.int .u64 (IntKind.u64.wrap (x13 + (if r7 < (IntKind.u64.wrap most) then r7 else (IntKind.u64.wrap most))))] <|
 J3 true) <|
 J3 y6) fun (y4 : Bool) =>
 ld cr ⟨n2, 0⟩ fun (x15 : Int × Int) =>
 st ⟨n1, 0⟩ (Ks.mk cr x15) <|
 ld cr ⟨n1, 0⟩ fun (x16 : Int × Int) =>
 R (x16, y4)
theorem call_buffer_Buffer_Take (b : Option Pt) (most : Int) (R : Rs.T [.agg [.int .u64, .int .u64], qb] → WP) (w : World) (h : W_buffer_Buffer_Take b most R w) : CW Tryz.prog N_buffer_Buffer_Take [vp b, vi most] [.agg [.int .u64, .int .u64], qb] R w := cs Tryz.func100 (.s .o (.s .o (.s .o (.j [(7, qb)] (.b (.l [(7, qb)] (.s (.s .o (.s .o .o)) (.b (.s .o (.s (.s .o (.s .o .o)) (.s (.d (.f 0 [0] (.f 4 [0] (.f 8 [8] (.f 1 [19] (.f 5 [23] (.f 2 [20] (.f 6 [24] (.f 3 [21] (.f 7 [25] (.f 9 [26, 27] (.f 10 [22, 28] (.w 11 [6, 29] (.w 12 [] .fin)))))))))))))) (.s .o .o)))))))) (.s .o .o))))) h (by kernel_rfl)
def W_buffer_Buffer_Unsent (b : Option Pt) (R : Rs.T [qu] → WP) : WP :=
 ite' b.isNone (
 R (0:Int)) <|
 drw <|
 deref b fun q1 =>
 deref b fun q2 =>
 ld cu q1 fun (x3 : Int) =>
 lo cu q2 1 fun (x4 : Int) =>
 R (IntKind.u64.wrap (x3 - x4))
theorem call_buffer_Buffer_Unsent (b : Option Pt) (R : Rs.T [qu] → WP) (w : World) (h : W_buffer_Buffer_Unsent b R w) : CW Tryz.prog N_buffer_Buffer_Unsent [vp b] [qu] R w := cs Tryz.func136 (.s .o (.s (.s .o (.s (.s .o .o) .o)) (.s (.d (.f 0 [0] (.f 4 [0] (.f 1 [5] (.f 5 [9] (.f 2 [6] (.f 6 [10] (.f 3 [7] (.f 7 [11] (.f 8 [8, 12] (.w 9 [13] .fin))))))))))) .o))) h (by kernel_rfl)
def W_buffer_Buffer_Write (b : Option Pt) (n : Int) (R : Rs.T [qi] → WP) : WP :=
 ite' b.isNone (
 R (2:Int)) <|
 ite' (decide (n < (1:Int))) (
 R (1:Int)) <|
 drw <|
 deref b fun q1 =>
 lo cu q1 3 fun (x2 : Int) =>
 call Tryz.prog N_buffer_Buffer_Held [vp b] [qu] fun (r3 : Int) =>
 ck q1 3 cu x2 <|
 ite' (decide ((IntKind.u64.wrap n) > (IntKind.u64.wrap (x2 - r3)))) (
 R (5:Int)) <|
 deref b fun q4 =>
 ld cu q4 fun (x5 : Int) =>
 deref b fun q6 =>
 st q6 [.int .u64 (IntKind.u64.wrap (x5 + (IntKind.u64.wrap n)))] <|
 R (0:Int)
theorem call_buffer_Buffer_Write (b : Option Pt) (n : Int) (R : Rs.T [qi] → WP) (w : World) (h : W_buffer_Buffer_Write b n R w) : CW Tryz.prog N_buffer_Buffer_Write [vp b, vi n] [qi] R w := cs Tryz.func90 (.s .o (.s (.b (.s .o (.s (.s .o .o) (.s .o (.s (.s .o .o) (.s (.d (.f 0 [1] (.f 2 [0] (.f 6 [0] (.f 1 [12] (.f 3 [14] (.f 4 [15] (.f 5 [16] (.w 7 [18] (.f 8 [17, 19] (.f 9 [13, 20] (.w 10 [21] .fin)))))))))))) (.s (.s .o .o) .o))))))) (.s .o (.s .o .o)))) h (by kernel_rfl)
def W_buffer_New (n : Int) (R : Rs.T [qp] → WP) : WP :=
 new [zu, zu, zu, .int .u64 (IntKind.u64.wrap (if (1073741824:Int) < (if (0:Int) > n then (0:Int) else n) then (1073741824:Int) else (if (0:Int) > n then (0:Int) else n)))] fun n1 =>
 R (some ⟨n1, 0⟩)
theorem call_buffer_New (n : Int) (R : Rs.T [qp] → WP) (w : World) (h : W_buffer_New n R w) : CW Tryz.prog N_buffer_New [vi n] [qp] R w := cs Tryz.func56 (.s .o (.s .o .o)) h (by kernel_rfl)
def W_canterplay_Config (d : T_i4u2bi2) (R : Rs.T [.agg K_i4u2bi2] → WP) : WP :=
 new (Ks.mk K_i4u2bi2 d) fun n1 =>
 new [zi, zi, zi, zi, zu, zu, .bool false, zi, zi] fun n2 =>
 call Tryz.prog N_canterref20_Plain [] [.agg K_i4u2bi2] fun (r3 : T_i4u2bi2) =>
 new [zi, zi, zi, zi, zu, zu, .bool false, zi, zi] fun n4 =>
 st ⟨n4, 0⟩ (Ks.mk K_i4u2bi2 r3) <|
 join [] (fun J5 =>
 join cb (fun J7 =>
 ld ci ⟨n1, 0⟩ fun (x9 : Int) =>
 ite' (decide (x9 ≥ (100:Int))) (
 ld ci ⟨n1, 0⟩ fun (x10 : Int) =>
 J7 (decide (x10 ≤ (65536:Int)))) <|
 J7 false) fun (y8 : Bool) =>
 ite' y8 (
 ld ci ⟨n1, 0⟩ fun (x11 : Int) =>
 st ⟨n4, 0⟩ [.int .i64 x11] <|
 J5 ()) <|
 J5 ()) fun (y6 : Unit) =>
 join [] (fun J12 =>
 join cb (fun J14 =>
 ld ci ⟨n1, 1⟩ fun (x16 : Int) =>
 ite' (decide (x16 ≥ (100:Int))) (
 ld ci ⟨n1, 1⟩ fun (x17 : Int) =>
 J14 (decide (x17 ≤ (65536:Int)))) <|
 J14 false) fun (y15 : Bool) =>
 ite' y15 (
 ld ci ⟨n1, 1⟩ fun (x18 : Int) =>
 st ⟨n4, 1⟩ [.int .i64 x18] <|
 J12 ()) <|
 J12 ()) fun (y13 : Unit) =>
 join [] (fun J19 =>
 join cb (fun J21 =>
 ld ci ⟨n1, 2⟩ fun (x23 : Int) =>
 ite' (decide (x23 ≥ (1:Int))) (
 ld ci ⟨n1, 2⟩ fun (x24 : Int) =>
 J21 (decide (x24 ≤ (512:Int)))) <|
 J21 false) fun (y22 : Bool) =>
 ite' y22 (
 ld ci ⟨n1, 2⟩ fun (x25 : Int) =>
 st ⟨n4, 2⟩ [.int .i64 x25] <|
 J19 ()) <|
 J19 ()) fun (y20 : Unit) =>
 join [] (fun J26 =>
 join cb (fun J28 =>
 ld ci ⟨n1, 3⟩ fun (x30 : Int) =>
 ite' (decide (x30 ≥ (1:Int))) (
 ld ci ⟨n1, 3⟩ fun (x31 : Int) =>
 J28 (decide (x31 ≤ (512:Int)))) <|
 J28 false) fun (y29 : Bool) =>
 ite' y29 (
 ld ci ⟨n1, 3⟩ fun (x32 : Int) =>
 st ⟨n4, 3⟩ [.int .i64 x32] <|
 J26 ()) <|
 J26 ()) fun (y27 : Unit) =>
 join [] (fun J33 =>
 ld cu ⟨n1, 4⟩ fun (x35 : Int) =>
 ite' (decide (x35 ≤ (4611686018427387904:Int))) (
 ld cu ⟨n1, 4⟩ fun (x36 : Int) =>
 st ⟨n4, 4⟩ [.int .u64 x36] <|
 J33 ()) <|
 J33 ()) fun (y34 : Unit) =>
 join [] (fun J37 =>
 join cb (fun J39 =>
 ld ci ⟨n1, 7⟩ fun (x41 : Int) =>
 ite' (decide (x41 ≥ (1:Int))) (
 ld ci ⟨n1, 7⟩ fun (x42 : Int) =>
 J39 (decide (x42 ≤ (1073741824:Int)))) <|
 J39 false) fun (y40 : Bool) =>
 ite' y40 (
 ld ci ⟨n1, 7⟩ fun (x43 : Int) =>
 st ⟨n4, 7⟩ [.int .i64 x43] <|
 J37 ()) <|
 J37 ()) fun (y38 : Unit) =>
 join [] (fun J44 =>
 join cb (fun J46 =>
 ld ci ⟨n1, 8⟩ fun (x48 : Int) =>
 ite' (decide (x48 ≥ (100:Int))) (
 ld ci ⟨n1, 8⟩ fun (x49 : Int) =>
 J46 (decide (x49 ≤ (9000:Int)))) <|
 J46 false) fun (y47 : Bool) =>
 ite' y47 (
 ld ci ⟨n1, 8⟩ fun (x50 : Int) =>
 st ⟨n4, 8⟩ [.int .i64 x50] <|
 J44 ()) <|
 J44 ()) fun (y45 : Unit) =>
 drw <|
 ld cu ⟨n1, 5⟩ fun (x51 : Int) =>
 ld cb ⟨n1, 6⟩ fun (x52 : Bool) =>
 st ⟨n4, 5⟩ [.int .u64 x51] <|
 chk ⟨n1, 6⟩ (Ks.mk cb x52) <|
 st ⟨n4, 6⟩ [.bool x52] <|
 ld K_i4u2bi2 ⟨n4, 0⟩ fun (x53 : T_i4u2bi2) =>
 st ⟨n2, 0⟩ (Ks.mk K_i4u2bi2 x53) <|
 ld K_i4u2bi2 ⟨n2, 0⟩ fun (x54 : T_i4u2bi2) =>
 R x54
theorem call_canterplay_Config (d : T_i4u2bi2) (R : Rs.T [.agg K_i4u2bi2] → WP) (w : World) (h : W_canterplay_Config d R w) : CW Tryz.prog N_canterplay_Config [.agg (Ks.mk K_i4u2bi2 d)] [.agg K_i4u2bi2] R w := cs Tryz.func4 (.s .o (.s .o (.j [] (.j [(12, qb)] .o (.s .o .o)) (.j [] (.j [(23, qb)] .o (.s .o .o)) (.j [] (.j [(34, qb)] .o (.s .o .o)) (.j [] (.j [(45, qb)] .o (.s .o .o)) (.j [] (.s .o (.s .o .o)) (.j [] (.j [(62, qb)] .o (.s .o .o)) (.j [] (.j [(73, qb)] .o (.s .o .o)) (.s (.d (.f 0 [1] (.f 2 [1] (.f 1 [77] (.f 3 [79] (.f 4 [3] (.w 5 [78, 81] (.f 6 [3] (.w 7 [80, 82] .fin))))))))) (.s .o .o))))))))))) h (by kernel_rfl)
def W_canterplay_Deed (d : T_i3u2si4u2bi2) (R : Rs.T [.agg K_i3u2si4u2bi2] → WP) : WP :=
 new (Ks.mk K_i3u2si4u2bi2 d) fun n1 =>
 new [zi, zi, zi, zu, zu, .sl ⟨none, 0, 0⟩, zi, zi, zi, zi, zu, zu, .bool false, zi, zi] fun n2 =>
 join [] (fun J3 =>
 ld cl ⟨n1, 5⟩ fun (x5 : Sl) =>
 ite' (decide (((x5.len : Nat) : Int) > (6:Int))) (
 ld cl ⟨n1, 5⟩ fun (x6 : Sl) =>
 slc x6 none (some (6:Int)) none 2 fun s7 =>
 st ⟨n1, 5⟩ [.sl s7] <|
 J3 ()) <|
 J3 ()) fun (y4 : Unit) =>
 join [] (fun J8 =>
 ld ci ⟨n1, 2⟩ fun (x10 : Int) =>
 ite' (decide (x10 > (200000:Int))) (
 st ⟨n1, 2⟩ [.int .i64 (200000:Int)] <|
 J8 ()) <|
 J8 ()) fun (y9 : Unit) =>
 ld K_i3u2si4u2bi2 ⟨n1, 0⟩ fun (x11 : T_i3u2si4u2bi2) =>
 st ⟨n2, 0⟩ (Ks.mk K_i3u2si4u2bi2 x11) <|
 ld K_i3u2si4u2bi2 ⟨n2, 0⟩ fun (x12 : T_i3u2si4u2bi2) =>
 R x12
theorem call_canterplay_Deed (d : T_i3u2si4u2bi2) (R : Rs.T [.agg K_i3u2si4u2bi2] → WP) (w : World) (h : W_canterplay_Deed d R w) : CW Tryz.prog N_canterplay_Deed [.agg (Ks.mk K_i3u2si4u2bi2 d)] [.agg K_i3u2si4u2bi2] R w := cs Tryz.func12 (.s .o (.j [] (.s .o (.s .o .o)) (.j [] (.s .o (.s .o .o)) (.s .o .o)))) h (by kernel_rfl)
def W_canterplay_Deeds (l : Sl) (most : Int) (R : Rs.T [qs] → WP) : WP :=
 loop [.sl, .int .i64] (⟨none, 0, 0⟩, (0:Int)) fun J1 (y2 : Sl × Int) =>
 ite' ((decide (y2.2 < ((l.len : Nat) : Int))) && (decide (y2.2 < most))) (
 idx l y2.2 15 fun q3 =>
 ld K_i3u2si4u2bi2 q3 fun (x4 : T_i3u2si4u2bi2) =>
 call Tryz.prog N_canterplay_Deed [.agg (Ks.mk K_i3u2si4u2bi2 x4)] [.agg K_i3u2si4u2bi2] fun (r5 : T_i3u2si4u2bi2) =>
 new [.int .i64 r5.1, .int .i64 r5.2.1, .int .i64 r5.2.2.1, .int .u64 r5.2.2.2.1, .int .u64 r5.2.2.2.2.1, .sl r5.2.2.2.2.2.1, .int .i64 r5.2.2.2.2.2.2.1, .int .i64 r5.2.2.2.2.2.2.2.1, .int .i64 r5.2.2.2.2.2.2.2.2.1, .int .i64 r5.2.2.2.2.2.2.2.2.2.1, .int .u64 r5.2.2.2.2.2.2.2.2.2.2.1, .int .u64 r5.2.2.2.2.2.2.2.2.2.2.2.1, .bool r5.2.2.2.2.2.2.2.2.2.2.2.2.1, .int .i64 r5.2.2.2.2.2.2.2.2.2.2.2.2.2.1, .int .i64 r5.2.2.2.2.2.2.2.2.2.2.2.2.2.2] fun n6 =>
 app 15 y2.1 ⟨some ⟨n6, 0⟩, 1, 1⟩ fun s7 =>
 J1 (s7, (IntKind.i64.wrap (y2.2 + (1:Int))))) <|
 R y2.1
theorem call_canterplay_Deeds (l : Sl) (most : Int) (R : Rs.T [qs] → WP) (w : World) (h : W_canterplay_Deeds l most R w) : CW Tryz.prog N_canterplay_Deeds [.lf (.sl l), vi most] [qs] R w := cs Tryz.func5 (.s .o (.s .o (.s (.s .o (.b (.l [(5, qs), (6, qi)] (.s (.s .o (.s .o .o)) (.s (.b .o) .o))))) (.s .o .o)))) h (by kernel_rfl)
def W_canterref20_Plain  (R : Rs.T [.agg K_i4u2bi2] → WP) : WP :=
 new [zi, zi, zi, zi, zu, zu, .bool false, zi, zi] fun n1 =>
 st ⟨n1, 0⟩ [.int .i64 (3000:Int), .int .i64 (15000:Int), .int .i64 (100:Int), .int .i64 (50:Int), .int .u64 (10000000000:Int), zu, .bool false, .int .i64 (100000:Int), .int .i64 (1000:Int)] <|
 ld K_i4u2bi2 ⟨n1, 0⟩ fun (x2 : T_i4u2bi2) =>
 R x2
theorem call_canterref20_Plain  (R : Rs.T [.agg K_i4u2bi2] → WP) (w : World) (h : W_canterref20_Plain  R w) : CW Tryz.prog N_canterref20_Plain [] [.agg K_i4u2bi2] R w := cs Tryz.func11 (.s .o (.s .o .o)) h (by kernel_rfl)
def W_cantertop_TopSorted (d : T_i4u2bi2) (o : Sl) (R : Rs.T [qb] → WP) : WP :=
 new (Ks.mk K_i4u2bi2 d) fun n1 =>
 ld K_i4u2bi2 ⟨n1, 0⟩ fun (x2 : T_i4u2bi2) =>
 call Tryz.prog N_canterplay_Config [.agg (Ks.mk K_i4u2bi2 x2)] [.agg K_i4u2bi2] fun (r3 : T_i4u2bi2) =>
 st ⟨n1, 0⟩ (Ks.mk K_i4u2bi2 r3) <|
 call Tryz.prog N_canterplay_Deeds [.lf (.sl o), .lf (.int .i64 (110:Int))] [qs] fun (r4 : Sl) =>
 loop [.sl, .int .i64] (⟨none, 0, 0⟩, (0:Int)) fun J5 (y6 : Sl × Int) =>
 ite' (decide (y6.2 < ((r4.len : Nat) : Int))) (
 idx r4 y6.2 15 fun q7 =>
 ld ci q7 fun (x8 : Int) =>
 ite' (x8 != (9:Int)) (
 idx r4 y6.2 15 fun q9 =>
 ld K_i3u2si4u2bi2 q9 fun (x10 : T_i3u2si4u2bi2) =>
 new [.int .i64 x10.1, .int .i64 x10.2.1, .int .i64 x10.2.2.1, .int .u64 x10.2.2.2.1, .int .u64 x10.2.2.2.2.1, .sl x10.2.2.2.2.2.1, .int .i64 x10.2.2.2.2.2.2.1, .int .i64 x10.2.2.2.2.2.2.2.1, .int .i64 x10.2.2.2.2.2.2.2.2.1, .int .i64 x10.2.2.2.2.2.2.2.2.2.1, .int .u64 x10.2.2.2.2.2.2.2.2.2.2.1, .int .u64 x10.2.2.2.2.2.2.2.2.2.2.2.1, .bool x10.2.2.2.2.2.2.2.2.2.2.2.2.1, .int .i64 x10.2.2.2.2.2.2.2.2.2.2.2.2.2.1, .int .i64 x10.2.2.2.2.2.2.2.2.2.2.2.2.2.2] fun n11 =>
 app 15 y6.1 ⟨some ⟨n11, 0⟩, 1, 1⟩ fun s12 =>
 J5 (s12, (IntKind.i64.wrap (y6.2 + (1:Int))))) <|
 J5 (y6.1, (IntKind.i64.wrap (y6.2 + (1:Int))))) <|
 ld K_i4u2bi2 ⟨n1, 0⟩ fun (x13 : T_i4u2bi2) =>
 call Tryz.prog N_script_Run [.agg (Ks.mk K_i4u2bi2 x13), .lf (.sl y6.1)] [qs, qs] fun (r14 : Sl × Sl) =>
 call Tryz.prog N_cantertop_awake [] [qb] fun (r15 : Bool) =>
 ite' (((!r15) || (((r14.1.len : Nat) : Int) != ((y6.1.len : Nat) : Int))) || (((r14.2.len : Nat) : Int) != ((y6.1.len : Nat) : Int))) (
 R false) <|
 loop [.sl, .int .i64] (⟨none, 0, 0⟩, (0:Int)) fun J16 (y17 : Sl × Int) =>
 ite' (decide (y17.2 < ((r14.1.len : Nat) : Int))) (
 idx r14.1 y17.2 4 fun q18 =>
 ld cl q18 fun (x19 : Sl) =>
 app 5 y17.1 x19 fun s20 =>
 J16 (s20, (IntKind.i64.wrap (y17.2 + (1:Int))))) <|
 call Tryz.prog N_audit_Sorted [.lf (.sl y17.1)] [qb] fun (r21 : Bool) =>
 ite' r21 (
 call Tryz.prog N_audit_Once [.lf (.sl y17.1)] [qb] fun (r22 : Bool) =>
 ite' r22 (
 call Tryz.prog N_audit_Part [.lf (.sl y17.1), .lf (.sl y17.1)] [qb] fun (r23 : Bool) =>
 R r23) <|
 R false) <|
 R false
theorem call_cantertop_TopSorted (d : T_i4u2bi2) (o : Sl) (R : Rs.T [qb] → WP) (w : World) (h : W_cantertop_TopSorted d o R w) : CW Tryz.prog N_cantertop_TopSorted [.agg (Ks.mk K_i4u2bi2 d), .lf (.sl o)] [qb] R w := cs Tryz.func3 (.s .o (.s .o (.s .o (.s .o (.s (.s .o (.b (.l [(5, qs), (6, qi)] (.s (.s .o (.s .o .o)) (.s (.b (.s .o (.s .o .o))) .o))))) (.s .o (.s (.s .o (.s (.s .o .o) .o)) (.s .o (.s (.s .o (.b (.l [(9, qs), (10, qi)] (.s (.s .o (.s .o .o)) (.s (.b .o) .o))))) (.s .o .o)))))))))) h (by kernel_rfl)
def W_cantertop_awake  (R : Rs.T [qb] → WP) : WP :=
 call Tryz.prog N_canterref20_Plain [] [.agg K_i4u2bi2] fun (r1 : T_i4u2bi2) =>
 new [.int .i64 (1:Int), zi, zi, zu, zu, .sl ⟨none, 0, 0⟩, zi, zi, zi, zi, zu, zu, .bool false, zi, zi, .int .i64 (2:Int), zi, .int .i64 (500:Int), zu, zu, .sl ⟨none, 0, 0⟩, zi, zi, zi, zi, zu, zu, .bool false, zi, zi, .int .i64 (6:Int), zi, zi, zu, zu, .sl ⟨none, 0, 0⟩, zi, zi, zi, zi, zu, zu, .bool false, zi, zi] fun n2 =>
 call Tryz.prog N_script_Run [.agg (Ks.mk K_i4u2bi2 r1), .lf (.sl ⟨some ⟨n2, 0⟩, 3, 3⟩)] [qs, qs] fun (r3 : Sl × Sl) =>
 ite' ((((r3.1.len : Nat) : Int) == (3:Int)) && (((r3.2.len : Nat) : Int) == (3:Int))) (
 idx r3.2 (2:Int) 1 fun q4 =>
 ld ci q4 fun (x5 : Int) =>
 ite' (x5 == (0:Int)) (
 idx r3.1 (2:Int) 4 fun q6 =>
 ld cl q6 fun (x7 : Sl) =>
 ite' (((x7.len : Nat) : Int) == (1:Int)) (
 idx r3.1 (2:Int) 4 fun q8 =>
 ld cl q8 fun (x9 : Sl) =>
 idx x9 (0:Int) 5 fun q10 =>
 lo ci q10 2 fun (x11 : Int) =>
 R (x11 == (500:Int))) <|
 R false) <|
 R false) <|
 R false
theorem call_cantertop_awake  (R : Rs.T [qb] → WP) (w : World) (h : W_cantertop_awake  R w) : CW Tryz.prog N_cantertop_awake [] [qb] R w := cs Tryz.func7 (.s .o (.s .o (.s .o .o))) h (by kernel_rfl)
def W_clock_Clock_Move (c : Option Pt) (to' : Int) (R : Rs.T [qi] → WP) : WP :=
 ite' c.isNone (
 R (2:Int)) <|
 ite' (decide (to' > (4611686018427387904:Int))) (
 R (3:Int)) <|
 deref c fun q1 =>
 ld cu q1 fun (x2 : Int) =>
 ite' (decide (to' < x2)) (
 R (4:Int)) <|
 deref c fun q3 =>
 st q3 [.int .u64 to'] <|
 R (0:Int)
theorem call_clock_Clock_Move (c : Option Pt) (to' : Int) (R : Rs.T [qi] → WP) (w : World) (h : W_clock_Clock_Move c to' R w) : CW Tryz.prog N_clock_Clock_Move [vp c, .lf (.int .u64 to')] [qi] R w := cs Tryz.func20 (.s .o (.s (.b (.s .o (.s (.s .o .o) (.s .o (.s (.s .o .o) (.s .o (.s (.s .o .o) .o))))))) (.s .o (.s .o .o)))) h (by kernel_rfl)
def W_clock_Clock_Now (c : Option Pt) (R : Rs.T [qu] → WP) : WP :=
 ite' c.isNone (
 R (0:Int)) <|
 deref c fun q1 =>
 ld cu q1 fun (x2 : Int) =>
 R x2
theorem call_clock_Clock_Now (c : Option Pt) (R : Rs.T [qu] → WP) (w : World) (h : W_clock_Clock_Now c R w) : CW Tryz.prog N_clock_Clock_Now [vp c] [qu] R w := cs Tryz.func52 (.s .o (.s (.s .o (.s (.s .o .o) .o)) (.s .o .o))) h (by kernel_rfl)
def W_clock_New (at' : Int) (R : Rs.T [qp] → WP) : WP :=
 new [.int .u64 at'] fun n1 =>
 call Tryz.prog N_clock_first [.lf (.sl ⟨some ⟨n1, 0⟩, 1, 1⟩)] [qu] fun (r2 : Int) =>
 new [.int .u64 r2] fun n3 =>
 R (some ⟨n3, 0⟩)
theorem call_clock_New (at' : Int) (R : Rs.T [qp] → WP) (w : World) (h : W_clock_New at' R w) : CW Tryz.prog N_clock_New [.lf (.int .u64 at')] [qp] R w := cs Tryz.func18 (.s .o (.s .o .o)) h (by kernel_rfl)
def W_clock_first (l : Sl) (R : Rs.T [qu] → WP) : WP :=
 loop [.int .u64, .int .i64] ((4611686018427387904:Int), (0:Int)) fun J1 (y2 : Int × Int) =>
 ite' (decide (y2.2 < ((l.len : Nat) : Int))) (
 idx l y2.2 1 fun q3 =>
 ld cu q3 fun (x4 : Int) =>
 ite' (decide (x4 ≥ y2.1)) (
 J1 (y2.1, (IntKind.i64.wrap (y2.2 + (1:Int))))) <|
 J1 (x4, (IntKind.i64.wrap (y2.2 + (1:Int))))) <|
 R y2.1
theorem call_clock_first (l : Sl) (R : Rs.T [qu] → WP) (w : World) (h : W_clock_first l R w) : CW Tryz.prog N_clock_first [.lf (.sl l)] [qu] R w := cs Tryz.func28 (.s .o (.s .o (.s .o (.s (.s .o (.b (.l [(3, qu), (8, qi)] (.s .o (.s (.s .o .o) (.s (.b (.s .o (.s (.s .o (.s .o .o)) .o))) .o)))))) (.s .o .o))))) h (by kernel_rfl)
def W_cmp_Compare_uint64 (x : Int) (y : Int) (R : Rs.T [qi] → WP) : WP :=
 call Tryz.prog N_cmp_isNaN_uint64 [vu x] [qb] fun (r1 : Bool) =>
 call Tryz.prog N_cmp_isNaN_uint64 [vu y] [qb] fun (r2 : Bool) =>
 ite' r1 (
 ite' r2 (
 R (0:Int)) <|
 R (-1:Int)) <|
 ite' r2 (
 R (1:Int)) <|
 ite' (decide (x < y)) (
 R (-1:Int)) <|
 ite' (decide (x > y)) (
 R (1:Int)) <|
 R (0:Int)
theorem call_cmp_Compare_uint64 (x : Int) (y : Int) (R : Rs.T [qi] → WP) (w : World) (h : W_cmp_Compare_uint64 x y R w) : CW Tryz.prog N_cmp_Compare_uint64 [vu x, vu y] [qi] R w := cs Tryz.func149 (.s .o (.s .o (.s .o (.s (.s .o (.s (.s (.s .o (.s (.s .o .o) .o)) (.s .o .o)) .o)) (.s (.s .o (.s (.s .o .o) .o)) (.s (.s .o (.s (.s .o .o) .o)) (.s (.s .o (.s (.s .o .o) .o)) (.s .o .o)))))))) h (by kernel_rfl)
def W_cmp_Or_int (vals : Sl) (R : Rs.T [qi] → WP) : WP :=
 loop ci (0:Int) fun J1 (y2 : Int) =>
 ite' (decide (y2 < ((vals.len : Nat) : Int))) (
 idx vals y2 1 fun q3 =>
 ld ci q3 fun (x4 : Int) =>
 ite' (x4 != (0:Int)) (
 R x4) <|
 J1 (IntKind.i64.wrap (y2 + (1:Int)))) <|
 R (0:Int)
theorem call_cmp_Or_int (vals : Sl) (R : Rs.T [qi] → WP) (w : World) (h : W_cmp_Or_int vals R w) : CW Tryz.prog N_cmp_Or_int [.lf (.sl vals)] [qi] R w := cs Tryz.func148 (.s .o (.s .o (.s (.s .o (.b (.l [(8, qi)] (.s .o (.s (.s .o .o) (.s (.b (.s .o (.s .o (.s (.s .o .o) .o)))) .o)))))) (.s .o .o)))) h (by kernel_rfl)
def W_cmp_isNaN_uint64 (x : Int) (R : Rs.T [qb] → WP) : WP :=
 R (x != x)
theorem call_cmp_isNaN_uint64 (x : Int) (R : Rs.T [qb] → WP) (w : World) (h : W_cmp_isNaN_uint64 x R w) : CW Tryz.prog N_cmp_isNaN_uint64 [vu x] [qb] R w := cs Tryz.func175 (.s .o (.s .o .o)) h (by kernel_rfl)
def W_cycle_Cycle_Gain (c : Option Pt) (R : Rs.T [qu] → WP) : WP :=
 ite' (!c.isNone) (
 deref c fun q1 =>
 ld ci q1 fun (x2 : Int) =>
 ite' (x2 == (0:Int)) (
 R (320:Int)) <|
 ite' (x2 == (1:Int)) (
 R (192:Int)) <|
 R (256:Int)) <|
 R (256:Int)
theorem call_cycle_Cycle_Gain (c : Option Pt) (R : Rs.T [qu] → WP) (w : World) (h : W_cycle_Cycle_Gain c R w) : CW Tryz.prog N_cycle_Cycle_Gain [vp c] [qu] R w := cs Tryz.func158 (.s .o (.s (.s .o (.s (.s .o (.b (.s .o (.s (.s .o .o) (.s .o (.s (.s .o .o) .o)))))) .o)) (.s .o .o))) h (by kernel_rfl)
def W_cycle_Cycle_Phase (c : Option Pt) (R : Rs.T [qi] → WP) : WP :=
 ite' c.isNone (
 R (0:Int)) <|
 deref c fun q1 =>
 ld ci q1 fun (x2 : Int) =>
 R x2
theorem call_cycle_Cycle_Phase (c : Option Pt) (R : Rs.T [qi] → WP) (w : World) (h : W_cycle_Cycle_Phase c R w) : CW Tryz.prog N_cycle_Cycle_Phase [vp c] [qi] R w := cs Tryz.func123 (.s .o (.s (.s .o (.s (.s .o .o) .o)) (.s .o .o))) h (by kernel_rfl)
def W_cycle_Cycle_Start (c : Option Pt) (now : Int) (phase : Int) (R : Rs.T [] → WP) : WP :=
 ite' (!c.isNone) (
 deref c fun q1 =>
 st q1 [.int .i64 ((IntKind.i64.wrap ((phase.tmod (8:Int)) + (8:Int))).tmod (8:Int))] <|
 deref c fun q2 =>
 so q2 1 [.int .u64 now] <|
 R ()) <|
 R ()
theorem call_cycle_Cycle_Start (c : Option Pt) (now : Int) (phase : Int) (R : Rs.T [] → WP) (w : World) (h : W_cycle_Cycle_Start c now phase R w) : CW Tryz.prog N_cycle_Cycle_Start [vp c, vu now, vi phase] [] R w := cs Tryz.func184 (.s .o (.s .o .o)) h (by kernel_rfl)
def W_cycle_Cycle_Update (c : Option Pt) (now : Int) (rtt : Int) (lost : Int) (flight : Int) (up : Int) (one : Int) (R : Rs.T [qb] → WP) : WP :=
 loop cb false fun J1 (y2 : Bool) =>
 join [] (fun J3 =>
 ite' (!c.isNone) (
 deref c fun q5 =>
 lo cu q5 1 fun (x6 : Int) =>
 call Tryz.prog N_sat_Sub [vu now, vu x6] [qu] fun (r7 : Int) =>
 call Tryz.prog N_cycle_Cycle_ends [vp c, .lf (.bool (decide (r7 > rtt))), vu lost, vu flight, vu up, vu one] [qb] fun (r8 : Bool) =>
 ite' r8 (
 J3 ()) <|
 R y2) <|
 R y2) fun (y4 : Unit) =>
 deref c fun q9 =>
 ld ci q9 fun (x10 : Int) =>
 call Tryz.prog N_cycle_Cycle_Start [vp c, vu now, .lf (.int .i64 (IntKind.i64.wrap (x10 + (1:Int))))] [] fun (r11 : Unit) =>
 R true
theorem call_cycle_Cycle_Update (c : Option Pt) (now : Int) (rtt : Int) (lost : Int) (flight : Int) (up : Int) (one : Int) (R : Rs.T [qb] → WP) (w : World) (h : W_cycle_Cycle_Update c now rtt lost flight up one R w) : CW Tryz.prog N_cycle_Cycle_Update [vp c, vu now, vu rtt, vu lost, vu flight, vu up, vu one] [qb] R w := cs Tryz.func165 (.s .o (.s .o (.s .o (.s (.b (.l [(15, qb)] (.j [] (.s .o (.s .o .o)) (.b (.s .o (.s .o .o)))))) (.s .o .o))))) h (by kernel_rfl)
def W_cycle_Cycle_ends (c : Option Pt) (over : Bool) (lost : Int) (flight : Int) (up : Int) (one : Int) (R : Rs.T [qb] → WP) : WP :=
 deref c fun q1 =>
 ld ci q1 fun (x2 : Int) =>
 ite' (x2 == (0:Int)) (
 R (over && ((decide (lost > (0:Int))) || (decide (flight ≥ up))))) <|
 ite' (x2 == (1:Int)) (
 R (over || (decide (flight ≤ one)))) <|
 R over
theorem call_cycle_Cycle_ends (c : Option Pt) (over : Bool) (lost : Int) (flight : Int) (up : Int) (one : Int) (R : Rs.T [qb] → WP) (w : World) (h : W_cycle_Cycle_ends c over lost flight up one R w) : CW Tryz.prog N_cycle_Cycle_ends [vp c, .lf (.bool over), vu lost, vu flight, vu up, vu one] [qb] R w := cs Tryz.func183 (.s .o (.s (.s .o (.b (.s .o (.s (.s .o .o) (.s .o (.s (.s .o .o) .o)))))) (.s .o .o))) h (by kernel_rfl)
def W_cycle_New  (R : Rs.T [qp] → WP) : WP :=
 new [zi, zu] fun n1 =>
 R (some ⟨n1, 0⟩)
theorem call_cycle_New  (R : Rs.T [qp] → WP) (w : World) (h : W_cycle_New  R w) : CW Tryz.prog N_cycle_New [] [qp] R w := cs Tryz.func83 (.s .o (.s .o .o)) h (by kernel_rfl)
def W_delay_Lesser (a : Int) (b : Int) (R : Rs.T [qu] → WP) : WP :=
 loop [.int .u64, .int .i64] ((18446744073709551615:Int), (0:Int)) fun J1 (y2 : Int × Int) =>
 ite' (decide (y2.2 < (2:Int))) (
 ixa [.int .u64] [.int .u64 a, .int .u64 b] y2.2 2 1 fun (x3 : Int) =>
 ite' (x3 == (0:Int)) (
 J1 (y2.1, (IntKind.i64.wrap (y2.2 + (1:Int))))) <|
 J1 ((if x3 < y2.1 then x3 else y2.1), (IntKind.i64.wrap (y2.2 + (1:Int))))) <|
 R y2.1
theorem call_delay_Lesser (a : Int) (b : Int) (R : Rs.T [qu] → WP) (w : World) (h : W_delay_Lesser a b R w) : CW Tryz.prog N_delay_Lesser [vu a, vu b] [qu] R w := cs Tryz.func78 (.s .o (.s .o (.s .o (.s (.s .o (.b (.l [(5, qu), (11, qi)] (.s .o (.s (.s .o .o) (.s (.b (.s .o (.s (.s .o (.s .o .o)) .o))) .o)))))) (.s .o .o))))) h (by kernel_rfl)
def W_delay_Of (size : Int) (rate : Int) (R : Rs.T [qu] → WP) : WP :=
 ite' ((decide (size < (1:Int))) || (rate == (18446744073709551615:Int))) (
 R (0:Int)) <|
 call Tryz.prog N_wide_MulDiv [.lf (.int .u64 (IntKind.u64.wrap size)), .lf (.int .u64 (1000000000:Int)), vu rate] [qu] fun (r1 : Int) =>
 R (if (1000000000:Int) < r1 then (1000000000:Int) else r1)
theorem call_delay_Of (size : Int) (rate : Int) (R : Rs.T [qu] → WP) (w : World) (h : W_delay_Of size rate R w) : CW Tryz.prog N_delay_Of [vi size, vu rate] [qu] R w := cs Tryz.func77 (.s .o (.s (.s .o (.s (.s .o .o) .o)) (.s .o .o))) h (by kernel_rfl)
def W_egress_Machine_Do (m : Option Pt) (d : T_i3u2si4u2bi2) (R : Rs.T [.agg K_s3u, qi] → WP) : WP :=
 new (Ks.mk K_i3u2si4u2bi2 d) fun n1 =>
 new [.sl ⟨none, 0, 0⟩, .sl ⟨none, 0, 0⟩, .sl ⟨none, 0, 0⟩, zu] fun n2 =>
 ite' m.isNone (
 st ⟨n2, 0⟩ [.sl ⟨none, 0, 0⟩, .sl ⟨none, 0, 0⟩, .sl ⟨none, 0, 0⟩, zu] <|
 ld K_s3u ⟨n2, 0⟩ fun (x3 : T_s3u) =>
 R (x3, (2:Int))) <|
 new [.sl ⟨none, 0, 0⟩, .sl ⟨none, 0, 0⟩, .sl ⟨none, 0, 0⟩, zu] fun n4 =>
 join ci (fun J5 =>
 ld ci ⟨n1, 0⟩ fun (x7 : Int) =>
 ite' (x7 == (5:Int)) (
 drw <|
 deref m fun q8 =>
 ld cu ⟨n1, 4⟩ fun (x9 : Int) =>
 lo cp q8 9 fun (x10 : Option Pt) =>
 call Tryz.prog N_clock_Clock_Move [vp x10, vu x9] [qi] fun (r11 : Int) =>
 J5 r11) <|
 ite' (x7 == (6:Int)) (
 call Tryz.prog N_egress_Machine_pull [vp m, .lf (.ptr (some ⟨n4, 0⟩))] [] fun (r12 : Unit) =>
 J5 (0:Int)) <|
 ite' (x7 == (8:Int)) (
 ld K_i4u2bi2 ⟨n1, 6⟩ fun (x13 : T_i4u2bi2) =>
 call Tryz.prog N_egress_Machine_set [vp m, .agg (Ks.mk K_i4u2bi2 x13)] [qi] fun (r14 : Int) =>
 J5 r14) <|
 join cb (fun J15 =>
 ite' (x7 == (1:Int)) (
 J15 (x7 == (1:Int))) <|
 ite' (x7 == (2:Int)) (
 J15 (x7 == (2:Int))) <|
 ite' (x7 == (3:Int)) (
 J15 (x7 == (3:Int))) <|
 ite' (x7 == (4:Int)) (
 J15 (x7 == (4:Int))) <|
 ite' (x7 == (7:Int)) (
 J15 (x7 == (7:Int))) <|
 J15 (x7 == (9:Int))) fun (y16 : Bool) =>
 ite' y16 (
 ld K_i3u2si4u2bi2 ⟨n1, 0⟩ fun (x17 : T_i3u2si4u2bi2) =>
 call Tryz.prog N_egress_Machine_one [vp m, .agg (Ks.mk K_i3u2si4u2bi2 x17), .lf (.ptr (some ⟨n4, 0⟩))] [qi] fun (r18 : Int) =>
 J5 r18) <|
 J5 (12:Int)) fun (y6 : Int) =>
 ite' (y6 != (0:Int)) (
 st ⟨n2, 0⟩ [.sl ⟨none, 0, 0⟩, .sl ⟨none, 0, 0⟩, .sl ⟨none, 0, 0⟩, zu] <|
 ld K_s3u ⟨n2, 0⟩ fun (x19 : T_s3u) =>
 R (x19, y6)) <|
 ld K_s3u ⟨n4, 0⟩ fun (x20 : T_s3u) =>
 st ⟨n2, 0⟩ (Ks.mk K_s3u x20) <|
 ld K_s3u ⟨n2, 0⟩ fun (x21 : T_s3u) =>
 R (x21, (0:Int))
theorem call_egress_Machine_Do (m : Option Pt) (d : T_i3u2si4u2bi2) (R : Rs.T [.agg K_s3u, qi] → WP) (w : World) (h : W_egress_Machine_Do m d R w) : CW Tryz.prog N_egress_Machine_Do [vp m, .agg (Ks.mk K_i3u2si4u2bi2 d)] [.agg K_s3u, qi] R w := cs Tryz.func14 (.s .o (.s (.s .o (.s (.s .o .o) .o)) (.s .o (.s .o (.j [(7, qi)] (.s .o (.b (.s .o (.s (.d (.f 0 [0] (.f 4 [3] (.f 1 [15] (.f 5 [19] (.f 2 [16] (.f 3 [17] (.w 6 [18, 20] (.w 7 [21] .fin))))))))) (.s .o (.s .o (.s .o (.s .o (.j [(32, qb)] (.s .o (.s .o (.s .o (.s .o (.s .o (.s .o (.s .o (.s .o (.s .o (.s .o .o)))))))))) (.s .o .o)))))))))) (.s (.s .o (.s (.s .o .o) .o)) (.s .o .o))))))) h (by kernel_rfl)
def W_egress_Machine_Now (m : Option Pt) (R : Rs.T [qu] → WP) : WP :=
 ite' m.isNone (
 R (0:Int)) <|
 deref m fun q1 =>
 lo cp q1 9 fun (x2 : Option Pt) =>
 call Tryz.prog N_clock_Clock_Now [vp x2] [qu] fun (r3 : Int) =>
 R r3
theorem call_egress_Machine_Now (m : Option Pt) (R : Rs.T [qu] → WP) (w : World) (h : W_egress_Machine_Now m R w) : CW Tryz.prog N_egress_Machine_Now [vp m] [qu] R w := cs Tryz.func30 (.s .o (.s (.s .o (.s (.s .o .o) .o)) (.s .o .o))) h (by kernel_rfl)
def W_egress_Machine_drop (m : Option Pt) (o : Option Pt) (s : T_iuiub) (fate : Int) (R : Rs.T [] → WP) : WP :=
 new (Ks.mk K_iuiub s) fun n1 =>
 drw <|
 deref m fun q2 =>
 ld ci ⟨n1, 0⟩ fun (x3 : Int) =>
 lo cp q2 19 fun (x4 : Option Pt) =>
 call Tryz.prog N_ledger_Ledger_Note [vp x4, vi x3, vi fate] [qi] fun (r5 : Int) =>
 drw <|
 ld K_iuiub ⟨n1, 0⟩ fun (x6 : T_iuiub) =>
 deref o fun q7 =>
 deref o fun q8 =>
 lo cl q7 1 fun (x9 : Sl) =>
 lo cl q8 2 fun (x10 : Sl) =>
 both (
 new [.int .i64 x6.1, .int .u64 x6.2.1, .int .i64 x6.2.2.1, .int .u64 x6.2.2.2.1, .bool x6.2.2.2.2] fun n11 =>
 ck q8 2 cl x10 <|
 ck q7 1 cl x9 <|
 both (
 app 5 x9 ⟨some ⟨n11, 0⟩, 1, 1⟩ fun s12 =>
 ck q8 2 cl x10 <|
 new [.int .i64 fate] fun n13 =>
 ck q8 2 cl x10 <|
 ck q7 1 cl x9 <|
 chk ⟨n1, 0⟩ (Ks.mk K_iuiub x6) <|
 app 1 x10 ⟨some ⟨n13, 0⟩, 1, 1⟩ fun s14 =>
 deref o fun q15 =>
 so q15 1 [.sl s12] <|
 deref o fun q16 =>
 so q16 2 [.sl s14] <|
 R ()) <|
 new [.int .i64 fate] fun n17 =>
 ck q8 2 cl x10 <|
 ck q7 1 cl x9 <|
 chk ⟨n1, 0⟩ (Ks.mk K_iuiub x6) <|
 app 5 x9 ⟨some ⟨n11, 0⟩, 1, 1⟩ fun s18 =>
 ck q8 2 cl x10 <|
 app 1 x10 ⟨some ⟨n17, 0⟩, 1, 1⟩ fun s19 =>
 deref o fun q20 =>
 so q20 1 [.sl s18] <|
 deref o fun q21 =>
 so q21 2 [.sl s19] <|
 R ()) <|
 new [.int .i64 fate] fun n22 =>
 ck q8 2 cl x10 <|
 ck q7 1 cl x9 <|
 chk ⟨n1, 0⟩ (Ks.mk K_iuiub x6) <|
 new [.int .i64 x6.1, .int .u64 x6.2.1, .int .i64 x6.2.2.1, .int .u64 x6.2.2.2.1, .bool x6.2.2.2.2] fun n23 =>
 ck q8 2 cl x10 <|
 ck q7 1 cl x9 <|
 app 5 x9 ⟨some ⟨n23, 0⟩, 1, 1⟩ fun s24 =>
 ck q8 2 cl x10 <|
 app 1 x10 ⟨some ⟨n22, 0⟩, 1, 1⟩ fun s25 =>
 deref o fun q26 =>
 so q26 1 [.sl s24] <|
 deref o fun q27 =>
 so q27 2 [.sl s25] <|
 R ()
theorem call_egress_Machine_drop (m : Option Pt) (o : Option Pt) (s : T_iuiub) (fate : Int) (R : Rs.T [] → WP) (w : World) (h : W_egress_Machine_drop m o s fate R w) : CW Tryz.prog N_egress_Machine_drop [vp m, vp o, .agg (Ks.mk K_iuiub s), vi fate] [] R w := cs Tryz.func61 (.s .o (.s (.d (.f 0 [0] (.f 4 [6] (.f 6 [3] (.f 1 [8] (.f 5 [12] (.f 2 [9] (.f 3 [10] (.w 7 [11, 13, 14] .fin))))))))) (.d (.f 0 [1] (.f 1 [1] (.f 2 [1] (.f 6 [6] (.f 9 [1] (.f 13 [3] (.f 3 [18] (.f 10 [25] (.f 4 [19] (.f 11 [26] (.f 5 [20] (.f 12 [27] (.wa 7 [22] (.wa 8 [21, 23] (.w 14 [29] (.w 15 [28, 30] (.f 16 [16] (.f 17 [32] (.w 18 [24, 33] (.f 19 [17] (.f 20 [34] (.w 21 [31, 35] .fin)))))))) (.w 14 [29] (.w 8 [21, 23] (.w 15 [28, 30] (.f 16 [16] (.f 17 [32] (.w 18 [24, 33] (.f 19 [17] (.f 20 [34] (.w 21 [31, 35] .fin)))))))))) (.w 14 [29] (.w 7 [22] (.w 8 [21, 23] (.w 15 [28, 30] (.f 16 [16] (.f 17 [32] (.w 18 [24, 33] (.f 19 [17] (.f 20 [34] (.w 21 [31, 35] .fin)))))))))))))))))))))))))) h (by kernel_rfl)
def W_egress_Machine_one (d : Option Pt) (o : T_i3u2si4u2bi2) (a : Option Pt) (R : Rs.T [qi] → WP) : WP :=
 new (Ks.mk K_i3u2si4u2bi2 o) fun n1 =>
 ld ci ⟨n1, 1⟩ fun (x2 : Int) =>
 call Tryz.prog N_egress_is [vi x2] [qb] fun (r3 : Bool) =>
 ite' (!r3) (
 R (8:Int)) <|
 drw <|
 ld ci ⟨n1, 1⟩ fun (x4 : Int) =>
 deref d fun q5 =>
 req (0 ≤ x4 ∧ x4 < 8) <|
 ld cp ⟨q5.b, q5.o + 10 + x4.toNat * 1⟩ fun (x6 : Option Pt) =>
 ld ci ⟨n1, 0⟩ fun (x7 : Int) =>
 ite' ((x7 == (1:Int)) && (!x6.isNone)) (
 R (9:Int)) <|
 ld ci ⟨n1, 0⟩ fun (x8 : Int) =>
 ite' (x8 == (1:Int)) (
 drw <|
 ld ci ⟨n1, 1⟩ fun (x9 : Int) =>
 ld ci ⟨n1, 1⟩ fun (x10 : Int) =>
 deref d fun q11 =>
 deref d fun q12 =>
 ld K_i4u2bi2 q11 fun (x13 : T_i4u2bi2) =>
 call Tryz.prog N_sock_New [vi x10, .agg (Ks.mk K_i4u2bi2 x13)] [qp] fun (r14 : Option Pt) =>
 chk ⟨n1, 1⟩ (Ks.mk ci x9) <|
 req (0 ≤ x9 ∧ x9 < 8) <|
 st ⟨q12.b, q12.o + 10 + x9.toNat * 1⟩ [.ptr r14] <|
 R (0:Int)) <|
 ite' x6.isNone (
 R (10:Int)) <|
 ld ci ⟨n1, 0⟩ fun (x15 : Int) =>
 ite' (x15 == (9:Int)) (
 ld ci ⟨n1, 1⟩ fun (x16 : Int) =>
 call Tryz.prog N_egress_Machine_shut [vp d, vi x16, vp a] [] fun (r17 : Unit) =>
 R (0:Int)) <|
 drw <|
 ld K_i3u2si4u2bi2 ⟨n1, 0⟩ fun (x18 : T_i3u2si4u2bi2) =>
 call Tryz.prog N_egress_Machine_Now [vp d] [qu] fun (r19 : Int) =>
 chk ⟨n1, 0⟩ (Ks.mk K_i3u2si4u2bi2 x18) <|
 call Tryz.prog N_egress_told [vp x6, .agg (Ks.mk K_i3u2si4u2bi2 x18), vu r19] [qi] fun (r20 : Int) =>
 ite' (r20 == (0:Int)) (
 ld ci ⟨n1, 1⟩ fun (x21 : Int) =>
 call Tryz.prog N_egress_Machine_pump [vp d, vi x21, vp a] [] fun (r22 : Unit) =>
 R r20) <|
 R r20
theorem call_egress_Machine_one (d : Option Pt) (o : T_i3u2si4u2bi2) (a : Option Pt) (R : Rs.T [qi] → WP) (w : World) (h : W_egress_Machine_one d o a R w) : CW Tryz.prog N_egress_Machine_one [vp d, .agg (Ks.mk K_i3u2si4u2bi2 o), vp a] [qi] R w := cs Tryz.func23 (.s .o (.s (.s .o (.s (.s .o .o) .o)) (.s (.d (.f 0 [0] (.f 1 [4] (.f 2 [14] (.f 3 [13] (.f 4 [16] (.f 5 [15, 17] (.f 6 [18] (.w 7 [19] .fin))))))))) (.s (.b (.s .o (.s (.s .o .o) (.s .o (.s (.s (.d (.f 0 [0] (.f 1 [4] (.f 3 [4] (.f 5 [0] (.f 2 [33] (.f 4 [35] (.f 6 [37] (.f 10 [32] (.f 7 [38] (.f 11 [42] (.f 8 [39] (.w 9 [36, 40] (.f 12 [34, 43] (.w 13 [41, 44] .fin))))))))))))))) (.s .o .o)) (.s .o (.s (.s .o .o) (.s .o (.s (.s .o (.s .o .o)) .o))))))))) (.s (.d (.f 0 [7] (.f 1 [4] (.f 2 [0] (.w 3 [59] (.w 4 [57, 58, 60] (.w 5 [61] .fin))))))) (.s (.s .o (.s .o .o)) (.s .o .o))))))) h (by kernel_rfl)
def W_egress_Machine_pull (m : Option Pt) (o : Option Pt) (R : Rs.T [] → WP) : WP :=
 drw <|
 deref m fun q1 =>
 lo cp q1 18 fun (x2 : Option Pt) =>
 both (
 call Tryz.prog N_egress_Machine_Now [vp m] [qu] fun (r3 : Int) =>
 ck q1 18 cp x2 <|
 both (
 call Tryz.prog N_egress_Machine_rates [vp m] [qs] fun (r4 : Sl) =>
 ck q1 18 cp x2 <|
 both (
 call Tryz.prog N_fq_Queue_Dequeue [vp x2, vu r3, .lf (.sl r4)] [.agg K_iuiub, qb] fun (r5 : T_iuiub × Bool) =>
 new [zi, zu, zi, zu, .bool false] fun n6 =>
 ck q1 18 cp x2 <|
 st ⟨n6, 0⟩ (Ks.mk K_iuiub r5.1) <|
 ite' r5.2 (
 drw <|
 deref m fun q7 =>
 ld ci ⟨n6, 0⟩ fun (x8 : Int) =>
 lo cp q7 19 fun (x9 : Option Pt) =>
 call Tryz.prog N_ledger_Ledger_Note [vp x9, vi x8, .lf (.int .i64 (1:Int))] [qi] fun (r10 : Int) =>
 ld K_iuiub ⟨n6, 0⟩ fun (x11 : T_iuiub) =>
 new [.int .i64 x11.1, .int .u64 x11.2.1, .int .i64 x11.2.2.1, .int .u64 x11.2.2.2.1, .bool x11.2.2.2.2] fun n12 =>
 deref o fun q13 =>
 st q13 [.sl ⟨some ⟨n12, 0⟩, 1, 1⟩] <|
 R ()) <|
 deref m fun q14 =>
 lo cp q14 18 fun (x15 : Option Pt) =>
 call Tryz.prog N_fq_Queue_Watchdog [vp x15] [qu, qb] fun (r16 : Int × Bool) =>
 ite' r16.2 (
 deref o fun q17 =>
 so q17 3 [.int .u64 (if (1:Int) > r16.1 then (1:Int) else r16.1)] <|
 R ()) <|
 R ()) <|
 new [zi, zu, zi, zu, .bool false] fun n18 =>
 ck q1 18 cp x2 <|
 call Tryz.prog N_fq_Queue_Dequeue [vp x2, vu r3, .lf (.sl r4)] [.agg K_iuiub, qb] fun (r19 : T_iuiub × Bool) =>
 st ⟨n18, 0⟩ (Ks.mk K_iuiub r19.1) <|
 ite' r19.2 (
 drw <|
 deref m fun q20 =>
 ld ci ⟨n18, 0⟩ fun (x21 : Int) =>
 lo cp q20 19 fun (x22 : Option Pt) =>
 call Tryz.prog N_ledger_Ledger_Note [vp x22, vi x21, .lf (.int .i64 (1:Int))] [qi] fun (r23 : Int) =>
 ld K_iuiub ⟨n18, 0⟩ fun (x24 : T_iuiub) =>
 new [.int .i64 x24.1, .int .u64 x24.2.1, .int .i64 x24.2.2.1, .int .u64 x24.2.2.2.1, .bool x24.2.2.2.2] fun n25 =>
 deref o fun q26 =>
 st q26 [.sl ⟨some ⟨n25, 0⟩, 1, 1⟩] <|
 R ()) <|
 deref m fun q27 =>
 lo cp q27 18 fun (x28 : Option Pt) =>
 call Tryz.prog N_fq_Queue_Watchdog [vp x28] [qu, qb] fun (r29 : Int × Bool) =>
 ite' r29.2 (
 deref o fun q30 =>
 so q30 3 [.int .u64 (if (1:Int) > r29.1 then (1:Int) else r29.1)] <|
 R ()) <|
 R ()) <|
 new [zi, zu, zi, zu, .bool false] fun n31 =>
 ck q1 18 cp x2 <|
 call Tryz.prog N_egress_Machine_rates [vp m] [qs] fun (r32 : Sl) =>
 ck q1 18 cp x2 <|
 call Tryz.prog N_fq_Queue_Dequeue [vp x2, vu r3, .lf (.sl r32)] [.agg K_iuiub, qb] fun (r33 : T_iuiub × Bool) =>
 st ⟨n31, 0⟩ (Ks.mk K_iuiub r33.1) <|
 ite' r33.2 (
 drw <|
 deref m fun q34 =>
 ld ci ⟨n31, 0⟩ fun (x35 : Int) =>
 lo cp q34 19 fun (x36 : Option Pt) =>
 call Tryz.prog N_ledger_Ledger_Note [vp x36, vi x35, .lf (.int .i64 (1:Int))] [qi] fun (r37 : Int) =>
 ld K_iuiub ⟨n31, 0⟩ fun (x38 : T_iuiub) =>
 new [.int .i64 x38.1, .int .u64 x38.2.1, .int .i64 x38.2.2.1, .int .u64 x38.2.2.2.1, .bool x38.2.2.2.2] fun n39 =>
 deref o fun q40 =>
 st q40 [.sl ⟨some ⟨n39, 0⟩, 1, 1⟩] <|
 R ()) <|
 deref m fun q41 =>
 lo cp q41 18 fun (x42 : Option Pt) =>
 call Tryz.prog N_fq_Queue_Watchdog [vp x42] [qu, qb] fun (r43 : Int × Bool) =>
 ite' r43.2 (
 deref o fun q44 =>
 so q44 3 [.int .u64 (if (1:Int) > r43.1 then (1:Int) else r43.1)] <|
 R ()) <|
 R ()) <|
 new [zi, zu, zi, zu, .bool false] fun n45 =>
 ck q1 18 cp x2 <|
 call Tryz.prog N_egress_Machine_Now [vp m] [qu] fun (r46 : Int) =>
 ck q1 18 cp x2 <|
 call Tryz.prog N_egress_Machine_rates [vp m] [qs] fun (r47 : Sl) =>
 ck q1 18 cp x2 <|
 call Tryz.prog N_fq_Queue_Dequeue [vp x2, vu r46, .lf (.sl r47)] [.agg K_iuiub, qb] fun (r48 : T_iuiub × Bool) =>
 st ⟨n45, 0⟩ (Ks.mk K_iuiub r48.1) <|
 ite' r48.2 (
 drw <|
 deref m fun q49 =>
 ld ci ⟨n45, 0⟩ fun (x50 : Int) =>
 lo cp q49 19 fun (x51 : Option Pt) =>
 call Tryz.prog N_ledger_Ledger_Note [vp x51, vi x50, .lf (.int .i64 (1:Int))] [qi] fun (r52 : Int) =>
 ld K_iuiub ⟨n45, 0⟩ fun (x53 : T_iuiub) =>
 new [.int .i64 x53.1, .int .u64 x53.2.1, .int .i64 x53.2.2.1, .int .u64 x53.2.2.2.1, .bool x53.2.2.2.2] fun n54 =>
 deref o fun q55 =>
 st q55 [.sl ⟨some ⟨n54, 0⟩, 1, 1⟩] <|
 R ()) <|
 deref m fun q56 =>
 lo cp q56 18 fun (x57 : Option Pt) =>
 call Tryz.prog N_fq_Queue_Watchdog [vp x57] [qu, qb] fun (r58 : Int × Bool) =>
 ite' r58.2 (
 deref o fun q59 =>
 so q59 3 [.int .u64 (if (1:Int) > r58.1 then (1:Int) else r58.1)] <|
 R ()) <|
 R ()
theorem call_egress_Machine_pull (m : Option Pt) (o : Option Pt) (R : Rs.T [] → WP) (w : World) (h : W_egress_Machine_pull m o R w) : CW Tryz.prog N_egress_Machine_pull [vp m, vp o] [] R w := cs Tryz.func21 (.s (.d (.f 0 [0] (.f 4 [0] (.f 6 [0] (.f 1 [9] (.f 2 [10] (.f 3 [11] (.wa 5 [13] (.wa 7 [15] (.wa 8 [12, 14, 16] (.f 9 [17] (.f 10 [8] (.f 11 [8] (.w 12 [] (.w 13 [4, 18] (.w 14 [19] .fin)))))) (.w 12 [] (.w 8 [12, 14, 16] (.f 9 [17] (.f 10 [8] (.f 11 [8] (.w 13 [4, 18] (.w 14 [19] .fin)))))))) (.w 12 [] (.w 7 [15] (.w 8 [12, 14, 16] (.f 9 [17] (.f 10 [8] (.f 11 [8] (.w 13 [4, 18] (.w 14 [19] .fin))))))))) (.w 12 [] (.w 5 [13] (.w 7 [15] (.w 8 [12, 14, 16] (.f 9 [17] (.f 10 [8] (.f 11 [8] (.w 13 [4, 18] (.w 14 [19] .fin))))))))))))))))) (.s (.s .o (.s (.s (.d (.f 0 [0] (.f 4 [4] (.f 1 [21] (.f 5 [25] (.f 2 [22] (.f 3 [23] (.w 6 [24, 26] .fin)))))))) (.s .o .o)) .o)) (.s .o (.s .o (.s .o .o))))) h (by kernel_rfl)
def W_egress_Machine_pump (m : Option Pt) (i : Int) (o : Option Pt) (R : Rs.T [] → WP) : WP :=
 deref m fun q1 =>
 req (0 ≤ i ∧ i < 8) <|
 ld cp ⟨q1.b, q1.o + 10 + i.toNat * 1⟩ fun (x2 : Option Pt) =>
 loop [] () fun J3 (y4 : Unit) =>
 call Tryz.prog N_egress_Machine_Now [vp m] [qu] fun (r5 : Int) =>
 call Tryz.prog N_sock_Sock_Emit [vp x2, vu r5] [.agg K_iuiub, qi] fun (r6 : T_iuiub × Int) =>
 new [zi, zu, zi, zu, .bool false] fun n7 =>
 st ⟨n7, 0⟩ (Ks.mk K_iuiub r6.1) <|
 ite' (r6.2 != (0:Int)) (
 R ()) <|
 deref m fun q8 =>
 lo cp q8 19 fun (x9 : Option Pt) =>
 call Tryz.prog N_ledger_Ledger_Note [vp x9, vi i, .lf (zi)] [qi] fun (r10 : Int) =>
 drw <|
 ld K_iuiub ⟨n7, 0⟩ fun (x11 : T_iuiub) =>
 deref m fun q12 =>
 lo cp q12 18 fun (x13 : Option Pt) =>
 call Tryz.prog N_egress_Machine_Now [vp m] [qu] fun (r14 : Int) =>
 ck q12 18 cp x13 <|
 chk ⟨n7, 0⟩ (Ks.mk K_iuiub x11) <|
 call Tryz.prog N_fq_Queue_Enqueue [vp x13, .agg (Ks.mk K_iuiub x11), vu r14] [qi, qi] fun (r15 : Int × Int) =>
 ite' (r15.1 == (0:Int)) (
 J3 ()) <|
 ld K_iuiub ⟨n7, 0⟩ fun (x16 : T_iuiub) =>
 call Tryz.prog N_egress_Machine_drop [vp m, vp o, .agg (Ks.mk K_iuiub x16), vi r15.1] [] fun (r17 : Unit) =>
 ld ci ⟨n7, 2⟩ fun (x18 : Int) =>
 call Tryz.prog N_sock_Sock_Done [vp x2, vi x18] [qi] fun (r19 : Int) =>
 R ()
theorem call_egress_Machine_pump (m : Option Pt) (i : Int) (o : Option Pt) (R : Rs.T [] → WP) (w : World) (h : W_egress_Machine_pump m i o R w) : CW Tryz.prog N_egress_Machine_pump [vp m, vi i, vp o] [] R w := cs Tryz.func39 (.s .o (.s .o (.b (.l [] (.b (.s .o (.s (.s .o (.s .o .o)) (.s .o (.s (.d (.f 0 [0] (.f 4 [7] (.f 5 [0] (.f 1 [33] (.f 2 [34] (.f 3 [35] (.w 6 [38] (.w 7 [36, 37, 39] (.f 8 [40] (.f 9 [32] (.f 10 [32] (.w 11 [41] (.w 12 [42] .fin)))))))))))))) (.s (.s .o (.s .o .o)) (.s .o (.s .o .o)))))))))))) h (by kernel_rfl)
def W_egress_Machine_rates (m : Option Pt) (R : Rs.T [qs] → WP) : WP :=
 deref m fun q1 =>
 lo K_p8 q1 10 fun (x2 : T_p8) =>
 loop [.sl, .int .i64] (⟨none, 0, 0⟩, (0:Int)) fun J3 (y4 : Sl × Int) =>
 ite' (decide (y4.2 < (8:Int))) (
 ixa [.ptr] (Ks.mk K_p8 x2) y4.2 8 1 fun (x5 : Option Pt) =>
 join cu (fun J6 =>
 ite' (!x5.isNone) (
 call Tryz.prog N_sock_Sock_Model [vp x5] [.agg K_i2u6b2] fun (r8 : T_i2u6b2) =>
 J6 r8.2.2.1) <|
 J6 (18446744073709551615:Int)) fun (y7 : Int) =>
 new [.int .u64 y7] fun n9 =>
 app 1 y4.1 ⟨some ⟨n9, 0⟩, 1, 1⟩ fun s10 =>
 J3 (s10, (IntKind.i64.wrap (y4.2 + (1:Int))))) <|
 R y4.1
theorem call_egress_Machine_rates (m : Option Pt) (R : Rs.T [qs] → WP) (w : World) (h : W_egress_Machine_rates m R w) : CW Tryz.prog N_egress_Machine_rates [vp m] [qs] R w := cs Tryz.func31 (.s .o (.s .o (.s (.s .o (.b (.l [(3, qs), (11, qi)] (.s .o (.s (.s .o .o) (.s (.b (.s .o (.s .o (.j [(6, qu)] (.s .o (.s .o .o)) .o)))) .o)))))) (.s .o .o)))) h (by kernel_rfl)
def W_egress_Machine_set (m : Option Pt) (c : T_i4u2bi2) (R : Rs.T [qi] → WP) : WP :=
 new (Ks.mk K_i4u2bi2 c) fun n1 =>
 drw <|
 ld K_i4u2bi2 ⟨n1, 0⟩ fun (x2 : T_i4u2bi2) =>
 deref m fun q3 =>
 lo cp q3 18 fun (x4 : Option Pt) =>
 call Tryz.prog N_fq_Queue_Set [vp x4, .agg (Ks.mk K_i4u2bi2 x2)] [qi] fun (r5 : Int) =>
 ite' (r5 == (0:Int)) (
 ld K_i4u2bi2 ⟨n1, 0⟩ fun (x6 : T_i4u2bi2) =>
 deref m fun q7 =>
 st q7 (Ks.mk K_i4u2bi2 x6) <|
 R r5) <|
 R r5
theorem call_egress_Machine_set (m : Option Pt) (c : T_i4u2bi2) (R : Rs.T [qi] → WP) (w : World) (h : W_egress_Machine_set m c R w) : CW Tryz.prog N_egress_Machine_set [vp m, .agg (Ks.mk K_i4u2bi2 c)] [qi] R w := cs Tryz.func22 (.s .o (.s (.d (.f 0 [0] (.f 4 [3] (.f 1 [6] (.f 2 [7] (.f 3 [8] (.w 5 [9, 10] (.w 6 [11] .fin)))))))) (.s (.s .o (.s .o .o)) (.s .o .o)))) h (by kernel_rfl)
def W_egress_Machine_shut (m : Option Pt) (i : Int) (o : Option Pt) (R : Rs.T [] → WP) : WP :=
 deref m fun q1 =>
 req (0 ≤ i ∧ i < 8) <|
 st ⟨q1.b, q1.o + 10 + i.toNat * 1⟩ [.ptr none] <|
 deref m fun q2 =>
 lo cp q2 18 fun (x3 : Option Pt) =>
 call Tryz.prog N_fq_Queue_Close [vp x3, vi i] [qs] fun (r4 : Sl) =>
 loop ci (0:Int) fun J5 (y6 : Int) =>
 ite' (decide (y6 < ((r4.len : Nat) : Int))) (
 idx r4 y6 5 fun q7 =>
 ld K_iuiub q7 fun (x8 : T_iuiub) =>
 new [zi, zu, zi, zu, .bool false] fun n9 =>
 st ⟨n9, 0⟩ (Ks.mk K_iuiub x8) <|
 ld K_iuiub ⟨n9, 0⟩ fun (x10 : T_iuiub) =>
 call Tryz.prog N_egress_Machine_drop [vp m, vp o, .agg (Ks.mk K_iuiub x10), .lf (.int .i64 (5:Int))] [] fun (r11 : Unit) =>
 J5 (IntKind.i64.wrap (y6 + (1:Int)))) <|
 R ()
theorem call_egress_Machine_shut (m : Option Pt) (i : Int) (o : Option Pt) (R : Rs.T [] → WP) (w : World) (h : W_egress_Machine_shut m i o R w) : CW Tryz.prog N_egress_Machine_shut [vp m, vi i, vp o] [] R w := cs Tryz.func37 (.s .o (.s .o (.b (.l [(20, qi)] (.s .o (.s (.s .o .o) (.s (.b (.s .o .o)) .o))))))) h (by kernel_rfl)
def W_egress_New (c : T_i4u2bi2) (R : Rs.T [qp, qi] → WP) : WP :=
 new (Ks.mk K_i4u2bi2 c) fun n1 =>
 ld K_i4u2bi2 ⟨n1, 0⟩ fun (x2 : T_i4u2bi2) =>
 call Tryz.prog N_fq_New [.agg (Ks.mk K_i4u2bi2 x2)] [qp, qi] fun (r3 : Option Pt × Int) =>
 ite' (r3.2 != (0:Int)) (
 R (none, r3.2)) <|
 drw <|
 ld K_i4u2bi2 ⟨n1, 0⟩ fun (x4 : T_i4u2bi2) =>
 call Tryz.prog N_clock_New [.lf (zu)] [qp] fun (r5 : Option Pt) =>
 chk ⟨n1, 0⟩ (Ks.mk K_i4u2bi2 x4) <|
 call Tryz.prog N_ledger_New [] [qp] fun (r6 : Option Pt) =>
 chk ⟨n1, 0⟩ (Ks.mk K_i4u2bi2 x4) <|
 new [.int .i64 x4.1, .int .i64 x4.2.1, .int .i64 x4.2.2.1, .int .i64 x4.2.2.2.1, .int .u64 x4.2.2.2.2.1, .int .u64 x4.2.2.2.2.2.1, .bool x4.2.2.2.2.2.2.1, .int .i64 x4.2.2.2.2.2.2.2.1, .int .i64 x4.2.2.2.2.2.2.2.2, .ptr r5, .ptr none, .ptr none, .ptr none, .ptr none, .ptr none, .ptr none, .ptr none, .ptr none, .ptr r3.1, .ptr r6] fun n7 =>
 R ((some ⟨n7, 0⟩), (0:Int))
theorem call_egress_New (c : T_i4u2bi2) (R : Rs.T [qp, qi] → WP) (w : World) (h : W_egress_New c R w) : CW Tryz.prog N_egress_New [.agg (Ks.mk K_i4u2bi2 c)] [qp, qi] R w := cs Tryz.func13 (.s .o (.s .o (.s (.s .o (.s (.s .o .o) .o)) (.s (.d (.f 0 [1] (.f 2 [4] (.w 1 [] (.w 3 [] (.f 4 [14, 15, 16, 17] (.w 5 [18] (.w 6 [19] (.w 7 [] .fin))))))))) .o)))) h (by kernel_rfl)
def W_egress_is (i : Int) (R : Rs.T [qb] → WP) : WP :=
 R ((decide (i ≥ (0:Int))) && (decide (i < (8:Int))))
theorem call_egress_is (i : Int) (R : Rs.T [qb] → WP) (w : World) (h : W_egress_is i R w) : CW Tryz.prog N_egress_is [vi i] [qb] R w := cs Tryz.func35 (.s .o (.s .o .o)) h (by kernel_rfl)
def W_egress_told (s : Option Pt) (d : T_i3u2si4u2bi2) (now : Int) (R : Rs.T [qi] → WP) : WP :=
 new (Ks.mk K_i3u2si4u2bi2 d) fun n1 =>
 ld ci ⟨n1, 0⟩ fun (x2 : Int) =>
 ite' (x2 == (2:Int)) (
 ld ci ⟨n1, 2⟩ fun (x3 : Int) =>
 call Tryz.prog N_sock_Sock_Write [vp s, vi x3] [qi] fun (r4 : Int) =>
 R r4) <|
 ite' (x2 == (3:Int)) (
 ld cu ⟨n1, 3⟩ fun (x5 : Int) =>
 ld cl ⟨n1, 5⟩ fun (x6 : Sl) =>
 call Tryz.prog N_sock_Sock_Ack [vp s, vu now, vu x5, .lf (.sl x6)] [qi] fun (r7 : Int) =>
 R r7) <|
 ite' (x2 == (4:Int)) (
 call Tryz.prog N_sock_Sock_Lose [vp s, vu now] [qi] fun (r8 : Int) =>
 R r8) <|
 ld ci ⟨n1, 2⟩ fun (x9 : Int) =>
 call Tryz.prog N_sock_Sock_Done [vp s, vi x9] [qi] fun (r10 : Int) =>
 R r10
theorem call_egress_told (s : Option Pt) (d : T_i3u2si4u2bi2) (now : Int) (R : Rs.T [qi] → WP) (w : World) (h : W_egress_told s d now R w) : CW Tryz.prog N_egress_told [vp s, .agg (Ks.mk K_i3u2si4u2bi2 d), vu now] [qi] R w := cs Tryz.func38 (.s .o (.s (.s .o (.b (.s .o (.s (.s .o .o) (.s .o (.s (.s .o .o) (.s .o (.s (.s .o .o) .o)))))))) (.s .o .o))) h (by kernel_rfl)
def W_fq_May (c : T_i4u2bi2) (R : Rs.T [qb] → WP) : WP :=
 new (Ks.mk K_i4u2bi2 c) fun n1 =>
 ld ci ⟨n1, 0⟩ fun (x2 : Int) =>
 call Tryz.prog N_fq_within [vi x2, .lf (.int .i64 (100:Int)), .lf (.int .i64 (65536:Int))] [qb] fun (r3 : Bool) =>
 ite' r3 (
 ld ci ⟨n1, 1⟩ fun (x4 : Int) =>
 call Tryz.prog N_fq_within [vi x4, .lf (.int .i64 (100:Int)), .lf (.int .i64 (65536:Int))] [qb] fun (r5 : Bool) =>
 ite' r5 (
 ld ci ⟨n1, 2⟩ fun (x6 : Int) =>
 call Tryz.prog N_fq_within [vi x6, .lf (.int .i64 (1:Int)), .lf (.int .i64 (512:Int))] [qb] fun (r7 : Bool) =>
 ite' r7 (
 ld ci ⟨n1, 3⟩ fun (x8 : Int) =>
 call Tryz.prog N_fq_within [vi x8, .lf (.int .i64 (1:Int)), .lf (.int .i64 (512:Int))] [qb] fun (r9 : Bool) =>
 ite' r9 (
 ld cu ⟨n1, 4⟩ fun (x10 : Int) =>
 ite' (decide (x10 ≤ (4611686018427387904:Int))) (
 ld ci ⟨n1, 7⟩ fun (x11 : Int) =>
 call Tryz.prog N_fq_within [vi x11, .lf (.int .i64 (1:Int)), .lf (.int .i64 (1073741824:Int))] [qb] fun (r12 : Bool) =>
 ite' r12 (
 ld ci ⟨n1, 8⟩ fun (x13 : Int) =>
 call Tryz.prog N_fq_within [vi x13, .lf (.int .i64 (100:Int)), .lf (.int .i64 (9000:Int))] [qb] fun (r14 : Bool) =>
 R r14) <|
 R false) <|
 R false) <|
 R false) <|
 R false) <|
 R false) <|
 R false
theorem call_fq_May (c : T_i4u2bi2) (R : Rs.T [qb] → WP) (w : World) (h : W_fq_May c R w) : CW Tryz.prog N_fq_May [.agg (Ks.mk K_i4u2bi2 c)] [qb] R w := cs Tryz.func25 (.s .o (.s .o .o)) h (by kernel_rfl)
def W_fq_New (c : T_i4u2bi2) (R : Rs.T [qp, qi] → WP) : WP :=
 new (Ks.mk K_i4u2bi2 c) fun n1 =>
 ld K_i4u2bi2 ⟨n1, 0⟩ fun (x2 : T_i4u2bi2) =>
 call Tryz.prog N_fq_May [.agg (Ks.mk K_i4u2bi2 x2)] [qb] fun (r3 : Bool) =>
 ite' (!r3) (
 R (none, (13:Int))) <|
 drw <|
 ld K_i4u2bi2 ⟨n1, 0⟩ fun (x4 : T_i4u2bi2) =>
 call Tryz.prog N_lists_New [] [qp] fun (r5 : Option Pt) =>
 chk ⟨n1, 0⟩ (Ks.mk K_i4u2bi2 x4) <|
 call Tryz.prog N_rbtree_New [.lf (.int .i64 (8:Int))] [qp] fun (r6 : Option Pt) =>
 chk ⟨n1, 0⟩ (Ks.mk K_i4u2bi2 x4) <|
 new [.int .i64 x4.1, .int .i64 x4.2.1, .int .i64 x4.2.2.1, .int .i64 x4.2.2.2.1, .int .u64 x4.2.2.2.2.1, .int .u64 x4.2.2.2.2.2.1, .bool x4.2.2.2.2.2.2.1, .int .i64 x4.2.2.2.2.2.2.2.1, .int .i64 x4.2.2.2.2.2.2.2.2, .ptr none, .ptr none, .ptr none, .ptr none, .ptr none, .ptr none, .ptr none, .ptr none, .ptr r5, .ptr r6, zi] fun n7 =>
 R ((some ⟨n7, 0⟩), (0:Int))
theorem call_fq_New (c : T_i4u2bi2) (R : Rs.T [qp, qi] → WP) (w : World) (h : W_fq_New c R w) : CW Tryz.prog N_fq_New [.agg (Ks.mk K_i4u2bi2 c)] [qp, qi] R w := cs Tryz.func17 (.s .o (.s (.s .o (.s (.s .o .o) .o)) (.s (.d (.f 0 [1] (.w 1 [] (.w 2 [] (.f 3 [7, 8, 9] (.w 4 [10] (.w 5 [11] (.w 6 [] .fin)))))))) .o))) h (by kernel_rfl)
def W_fq_Queue_Close (q : Option Pt) (sock : Int) (R : Rs.T [qs] → WP) : WP :=
 call Tryz.prog N_fq_Queue_has [vp q, vi sock] [qb] fun (r1 : Bool) =>
 ite' (!r1) (
 R ⟨none, 0, 0⟩) <|
 deref q fun q2 =>
 req (0 ≤ sock ∧ sock < 8) <|
 ld cp ⟨q2.b, q2.o + 9 + sock.toNat * 1⟩ fun (x3 : Option Pt) =>
 join [] (fun J4 =>
 call Tryz.prog N_fq_Queue_place [vp q, vi sock] [qi] fun (r6 : Int) =>
 ite' (r6 == (3:Int)) (
 drw <|
 deref q fun q7 =>
 lo cp q7 18 fun (x8 : Option Pt) =>
 call Tryz.prog N_fq_key [vp x3, vi sock] [.agg [.int .u64, .int .u64]] fun (r9 : (Int × Int)) =>
 ck q7 18 cp x8 <|
 call Tryz.prog N_rbtree_Tree_Delete [vp x8, .agg (Ks.mk cr r9)] [qi] fun (r10 : Int) =>
 J4 ()) <|
 J4 ()) fun (y5 : Unit) =>
 deref q fun q11 =>
 lo cp q11 17 fun (x12 : Option Pt) =>
 call Tryz.prog N_lists_Lists_Remove [vp x12, vi sock] [qb] fun (r13 : Bool) =>
 deref q fun q14 =>
 req (0 ≤ sock ∧ sock < 8) <|
 st ⟨q14.b, q14.o + 9 + sock.toNat * 1⟩ [.ptr none] <|
 drw <|
 deref q fun q15 =>
 deref x3 fun q16 =>
 lo ci q15 19 fun (x17 : Int) =>
 lo cl q16 3 fun (x18 : Sl) =>
 deref q fun q19 =>
 so q19 19 [.int .i64 (IntKind.i64.wrap (x17 - ((x18.len : Nat) : Int)))] <|
 deref x3 fun q20 =>
 lo cl q20 3 fun (x21 : Sl) =>
 call Tryz.prog N_slices_Clone_sapiSegapiSeg [.lf (.sl x21)] [qs] fun (r22 : Sl) =>
 R r22
theorem call_fq_Queue_Close (q : Option Pt) (sock : Int) (R : Rs.T [qs] → WP) (w : World) (h : W_fq_Queue_Close q sock R w) : CW Tryz.prog N_fq_Queue_Close [vp q, vi sock] [qs] R w := cs Tryz.func60 (.s .o (.s (.s .o (.s (.s .o .o) .o)) (.s .o (.j [] (.s .o (.s (.d (.f 0 [0] (.f 4 [5] (.f 5 [1] (.f 1 [20] (.f 2 [21] (.f 3 [22] (.w 6 [24, 25] (.w 7 [23, 26] .fin))))))))) .o)) (.s .o (.s .o (.s (.d (.f 0 [0] (.f 4 [5] (.f 1 [39] (.f 5 [43] (.f 2 [40] (.f 6 [44] (.f 3 [41] (.f 7 [45] (.f 8 [46] (.f 9 [42, 47] (.f 10 [39] (.f 11 [49] (.w 12 [48, 50] .fin)))))))))))))) (.s .o .o)))))))) h (by kernel_rfl)
def W_fq_Queue_Dequeue (d : Option Pt) (o : Int) (a : Sl) (R : Rs.T [.agg K_iuiub, qb] → WP) : WP :=
 new [zi, zu, zi, zu, .bool false] fun n1 =>
 ite' d.isNone (
 st ⟨n1, 0⟩ [zi, zu, zi, zu, .bool false] <|
 ld K_iuiub ⟨n1, 0⟩ fun (x2 : T_iuiub) =>
 R (x2, false)) <|
 call Tryz.prog N_fq_Queue_due [vp d, vu o] [] fun (r3 : Unit) =>
 loop [] () fun J4 (y5 : Unit) =>
 deref d fun q6 =>
 lo cp q6 17 fun (x7 : Option Pt) =>
 call Tryz.prog N_lists_Lists_Head [vp x7] [qi, qb, qb] fun (r8 : Int × Bool × Bool) =>
 ite' (!r8.2.2) (
 st ⟨n1, 0⟩ [zi, zu, zi, zu, .bool false] <|
 ld K_iuiub ⟨n1, 0⟩ fun (x9 : T_iuiub) =>
 R (x9, false)) <|
 deref d fun q10 =>
 req (0 ≤ r8.1 ∧ r8.1 < 8) <|
 ld cp ⟨q10.b, q10.o + 9 + r8.1.toNat * 1⟩ fun (x11 : Option Pt) =>
 deref x11 fun q12 =>
 ld ci q12 fun (x13 : Int) =>
 ite' (decide (x13 ≤ (0:Int))) (
 drw <|
 deref x11 fun q14 =>
 deref d fun q15 =>
 ld ci q14 fun (x16 : Int) =>
 ld ci q15 fun (x17 : Int) =>
 deref x11 fun q18 =>
 st q18 [.int .i64 (IntKind.i64.wrap (x16 + x17))] <|
 deref d fun q19 =>
 lo cp q19 17 fun (x20 : Option Pt) =>
 call Tryz.prog N_lists_Lists_Back [vp x20] [qb] fun (r21 : Bool) =>
 J4 ()) <|
 join cb (fun J22 =>
 deref x11 fun q24 =>
 lo cl q24 3 fun (x25 : Sl) =>
 ite' ((((x25.len : Nat) : Int) == (0:Int)) && r8.2.1) (
 call Tryz.prog N_fq_Queue_old [vp d] [qb] fun (r26 : Bool) =>
 J22 r26) <|
 J22 false) fun (y23 : Bool) =>
 ite' y23 (
 deref d fun q27 =>
 lo cp q27 17 fun (x28 : Option Pt) =>
 call Tryz.prog N_lists_Lists_Back [vp x28] [qb] fun (r29 : Bool) =>
 J4 ()) <|
 deref x11 fun q30 =>
 lo cl q30 3 fun (x31 : Sl) =>
 ite' (((x31.len : Nat) : Int) == (0:Int)) (
 deref d fun q32 =>
 lo cp q32 17 fun (x33 : Option Pt) =>
 call Tryz.prog N_lists_Lists_Drop [vp x33] [qb] fun (r34 : Bool) =>
 deref x11 fun q35 =>
 so q35 2 [.int .u64 o] <|
 J4 ()) <|
 call Tryz.prog N_fq_flow_time [vp x11] [qu] fun (r36 : Int) =>
 ite' (decide (r36 > o)) (
 deref d fun q37 =>
 lo cp q37 17 fun (x38 : Option Pt) =>
 call Tryz.prog N_lists_Lists_Drop [vp x38] [qb] fun (r39 : Bool) =>
 drw <|
 deref d fun q40 =>
 lo cp q40 18 fun (x41 : Option Pt) =>
 call Tryz.prog N_fq_key [vp x11, vi r8.1] [.agg [.int .u64, .int .u64]] fun (r42 : (Int × Int)) =>
 ck q40 18 cp x41 <|
 call Tryz.prog N_rbtree_Tree_Insert [vp x41, .agg (Ks.mk cr r42)] [qi] fun (r43 : Int) =>
 J4 ()) <|
 join cu (fun J44 =>
 ite' (decide (r8.1 < ((a.len : Nat) : Int))) (
 idx a r8.1 1 fun q46 =>
 ld cu q46 fun (x47 : Int) =>
 J44 x47) <|
 J44 (18446744073709551615:Int)) fun (y45 : Int) =>
 call Tryz.prog N_fq_Queue_send [vp d, vp x11, vu o, vu y45] [.agg K_iuiub] fun (r48 : T_iuiub) =>
 st ⟨n1, 0⟩ (Ks.mk K_iuiub r48) <|
 ld K_iuiub ⟨n1, 0⟩ fun (x49 : T_iuiub) =>
 R (x49, true)
theorem call_fq_Queue_Dequeue (d : Option Pt) (o : Int) (a : Sl) (R : Rs.T [.agg K_iuiub, qb] → WP) (w : World) (h : W_fq_Queue_Dequeue d o a R w) : CW Tryz.prog N_fq_Queue_Dequeue [vp d, vu o, .lf (.sl a)] [.agg K_iuiub, qb] R w := cs Tryz.func29 (.s .o (.s (.s .o (.s (.s .o .o) .o)) (.s .o (.s .o (.s (.b (.l [] (.b (.s .o (.s (.s .o (.s .o .o)) (.s .o (.b (.s .o (.s (.s (.d (.f 0 [11] (.f 4 [0] (.f 1 [55] (.f 5 [59] (.f 2 [56] (.f 6 [60] (.f 3 [57] (.f 7 [61] (.f 8 [62] (.f 9 [58, 63] (.f 10 [55] (.f 11 [65] (.w 12 [64, 66] .fin)))))))))))))) .o) (.j [(72, qb)] .o (.s .o (.s .o (.s (.s .o .o) (.s .o (.s (.s .o (.d (.f 0 [0] (.f 4 [11] (.f 5 [8] (.f 1 [117] (.f 2 [118] (.f 3 [119] (.w 6 [121, 122] (.w 7 [120, 123] .fin)))))))))) (.s .o (.j [(12, qu)] (.s .o (.s .o .o)) (.s .o .o)))))))))))))))))) (.s .o .o)))))) h (by kernel_rfl)
end Go.X
