/- What each function of the program computes, as a weakest precondition, printed by program; the kernel sees that the code says so. -/
import Derived.Test.YtniflenfpbbikaaGreatK
import Derived.Test.YtniflenfpbbikaaGreatProg
set_option linter.unusedVariables false
set_option linter.unusedSimpArgs false
set_option linter.unusedSectionVars false
namespace Go.X
open Go.Proofs
def W_fq_Queue_Enqueue (q : Option Pt) (s : T_iuiub) (now : Int) (R : Rs.T [qi, qi] → WP) : WP :=
 new (Ks.mk K_iuiub s) fun n1 =>
 ite' q.isNone (
 R ((0:Int), (2:Int))) <|
 ld ci ⟨n1, 0⟩ fun (x2 : Int) =>
 call Tryz.prog N_fq_within [vi x2, .lf (zi), .lf (.int .i64 (7:Int))] [qb] fun (r3 : Bool) =>
 ite' (!r3) (
 R ((0:Int), (8:Int))) <|
 ld ci ⟨n1, 2⟩ fun (x4 : Int) =>
 call Tryz.prog N_fq_within [vi x4, .lf (.int .i64 (1:Int)), .lf (.int .i64 (65536:Int))] [qb] fun (r5 : Bool) =>
 ite' (!r5) (
 R ((0:Int), (1:Int))) <|
 call Tryz.prog N_fq_Queue_collect [vp q, vu now] [] fun (r6 : Unit) =>
 call Tryz.prog N_fq_Queue_fate [vp q, .lf (.ptr (some ⟨n1, 0⟩)), vu now] [qi] fun (r7 : Int) =>
 ite' (r7 == (0:Int)) (
 ld ci ⟨n1, 0⟩ fun (x8 : Int) =>
 call Tryz.prog N_fq_Queue_wake [vp q, vi x8, vu now] [] fun (r9 : Unit) =>
 drw <|
 ld ci ⟨n1, 0⟩ fun (x10 : Int) =>
 deref q fun q11 =>
 req (0 ≤ x10 ∧ x10 < 8) <|
 ld cp ⟨q11.b, q11.o + 9 + x10.toNat * 1⟩ fun (x12 : Option Pt) =>
 drw <|
 ld K_iuiub ⟨n1, 0⟩ fun (x13 : T_iuiub) =>
 deref x12 fun q14 =>
 lo cl q14 3 fun (x15 : Sl) =>
 new [.int .i64 x13.1, .int .u64 x13.2.1, .int .i64 x13.2.2.1, .int .u64 x13.2.2.2.1, .bool x13.2.2.2.2] fun n16 =>
 ck q14 3 cl x15 <|
 app 5 x15 ⟨some ⟨n16, 0⟩, 1, 1⟩ fun s17 =>
 deref x12 fun q18 =>
 so q18 3 [.sl s17] <|
 deref q fun q19 =>
 lo ci q19 19 fun (x20 : Int) =>
 deref q fun q21 =>
 so q21 19 [.int .i64 (IntKind.i64.wrap (x20 + (1:Int)))] <|
 R (r7, (0:Int))) <|
 R (r7, (0:Int))
theorem call_fq_Queue_Enqueue (q : Option Pt) (s : T_iuiub) (now : Int) (R : Rs.T [qi, qi] → WP) (w : World) (h : W_fq_Queue_Enqueue q s now R w) : CW Tryz.prog N_fq_Queue_Enqueue [vp q, .agg (Ks.mk K_iuiub s), vu now] [qi, qi] R w := cs Tryz.func67 (.s .o (.s (.b (.s .o (.s (.s .o .o) (.s .o (.s (.s .o .o) (.s .o (.s (.s .o .o) .o))))))) (.s .o (.s .o (.s (.s .o (.s (.s .o (.s (.d (.f 0 [0] (.f 1 [4] (.f 2 [37] (.f 3 [36] (.f 4 [39] (.f 5 [38, 40] (.f 6 [41] (.w 7 [42] .fin))))))))) (.s (.d (.f 0 [9] (.f 1 [9] (.f 5 [4] (.f 2 [44] (.f 3 [45] (.f 4 [46] (.w 6 [48] (.w 7 [47, 49] (.f 8 [43] (.f 9 [51] (.w 10 [50, 52] .fin)))))))))))) .o))) .o)) (.s .o .o)))))) h (by kernel_rfl)
def W_fq_Queue_Set (q : Option Pt) (c : T_i4u2bi2) (R : Rs.T [qi] → WP) : WP :=
 new (Ks.mk K_i4u2bi2 c) fun n1 =>
 ite' q.isNone (
 R (2:Int)) <|
 ld K_i4u2bi2 ⟨n1, 0⟩ fun (x2 : T_i4u2bi2) =>
 call Tryz.prog N_fq_May [.agg (Ks.mk K_i4u2bi2 x2)] [qb] fun (r3 : Bool) =>
 ite' (!r3) (
 R (13:Int)) <|
 ld K_i4u2bi2 ⟨n1, 0⟩ fun (x4 : T_i4u2bi2) =>
 deref q fun q5 =>
 st q5 (Ks.mk K_i4u2bi2 x4) <|
 R (0:Int)
theorem call_fq_Queue_Set (q : Option Pt) (c : T_i4u2bi2) (R : Rs.T [qi] → WP) (w : World) (h : W_fq_Queue_Set q c R w) : CW Tryz.prog N_fq_Queue_Set [vp q, .agg (Ks.mk K_i4u2bi2 c)] [qi] R w := cs Tryz.func34 (.s .o (.s (.b (.s .o (.s (.s .o .o) (.s .o (.s (.s .o .o) .o))))) (.s .o (.s .o .o)))) h (by kernel_rfl)
def W_fq_Queue_Watchdog (q : Option Pt) (R : Rs.T [qu, qb] → WP) : WP :=
 ite' q.isNone (
 R ((0:Int), false)) <|
 deref q fun q1 =>
 lo cp q1 18 fun (x2 : Option Pt) =>
 call Tryz.prog N_rbtree_Tree_Min [vp x2] [.agg [.int .u64, .int .u64], qb] fun (r3 : (Int × Int) × Bool) =>
 new [zu, zu] fun n4 =>
 st ⟨n4, 0⟩ (Ks.mk cr r3.1) <|
 ld cu ⟨n4, 0⟩ fun (x5 : Int) =>
 R (x5, r3.2)
theorem call_fq_Queue_Watchdog (q : Option Pt) (R : Rs.T [qu, qb] → WP) (w : World) (h : W_fq_Queue_Watchdog q R w) : CW Tryz.prog N_fq_Queue_Watchdog [vp q] [qu, qb] R w := cs Tryz.func33 (.s .o (.s (.s .o (.s (.s .o .o) .o)) (.s .o (.s .o .o)))) h (by kernel_rfl)
def W_fq_Queue_collect (q : Option Pt) (now : Int) (R : Rs.T [] → WP) : WP :=
 loop ci (0:Int) fun J1 (y2 : Int) =>
 ite' (decide (y2 < (8:Int))) (
 call Tryz.prog N_fq_Queue_idle [vp q, vi y2, .lf (.int .u64 (3000000000:Int)), vu now] [qb] fun (r3 : Bool) =>
 ite' r3 (
 deref q fun q4 =>
 req (0 ≤ y2 ∧ y2 < 8) <|
 st ⟨q4.b, q4.o + 9 + y2.toNat * 1⟩ [.ptr none] <|
 J1 (IntKind.i64.wrap (y2 + (1:Int)))) <|
 J1 (IntKind.i64.wrap (y2 + (1:Int)))) <|
 R ()
theorem call_fq_Queue_collect (q : Option Pt) (now : Int) (R : Rs.T [] → WP) (w : World) (h : W_fq_Queue_collect q now R w) : CW Tryz.prog N_fq_Queue_collect [vp q, vu now] [] R w := cs Tryz.func103 (.s .o (.b (.l [(5, qi)] (.s .o (.s (.s .o .o) (.s (.b (.s .o (.s .o (.s .o .o)))) .o)))))) h (by kernel_rfl)
def W_fq_Queue_due (n0 : Nat) (q : Option Pt) (now : Int) (R : Rs.T [] → WP) : WP :=
 new [.int .u64 now] fun n1 =>
 new [.sl ⟨none, 0, 0⟩] fun n2 =>
 join [] (fun J3 =>
 deref q fun q5 =>
 lo cp q5 18 fun (x6 : Option Pt) =>
 call Tryz.prog N_rbtree_Tree_All [vp x6] [.lf .fn] fun (r7 : Fv) =>
 rangeF Tryz.prog r7 [.agg [.int .u64, .int .u64]] (fun (v8 : (Int × Int)) mid9 next10 jump11 =>
 new [zu, zu] fun n12 =>
 st ⟨n12, 0⟩ (Ks.mk cr v8) <|
 mid9 <|
 ld cu ⟨n12, 0⟩ fun (x13 : Int) =>
 ld cu ⟨n1, 0⟩ fun (x14 : Int) =>
 ite' (decide (x13 > x14)) (
 jump11 2) <|
 ld cl ⟨n2, 0⟩ fun (x15 : Sl) =>
 ld cr ⟨n12, 0⟩ fun (x16 : Int × Int) =>
 new [.int .u64 x16.1, .int .u64 x16.2] fun n17 =>
 app 2 x15 ⟨some ⟨n17, 0⟩, 1, 1⟩ fun s18 =>
 st ⟨n2, 0⟩ [.sl s18] <|
 next10) fun i19 => isBy 0 i19 (J3 ()) <|
 isBy 2 i19 (J3 ()) <|
 wno) fun (y4 : Unit) =>
 ld cl ⟨n2, 0⟩ fun (x20 : Sl) =>
 loop ci (0:Int) fun J21 (y22 : Int) =>
 ite' (decide (y22 < ((x20.len : Nat) : Int))) (
 idx x20 y22 2 fun q23 =>
 ld cr q23 fun (x24 : Int × Int) =>
 new [zu, zu] fun n25 =>
 st ⟨n25, 0⟩ (Ks.mk cr x24) <|
 drw <|
 ld cr ⟨n25, 0⟩ fun (x26 : Int × Int) =>
 deref q fun q27 =>
 lo cp q27 18 fun (x28 : Option Pt) =>
 call Tryz.prog N_rbtree_Tree_Delete [vp x28, .agg (Ks.mk cr x26)] [qi] fun (r29 : Int) =>
 drw <|
 deref q fun q30 =>
 ld cu ⟨n25, 1⟩ fun (x31 : Int) =>
 lo cp q30 17 fun (x32 : Option Pt) =>
 call Tryz.prog N_lists_Lists_Push [vp x32, .lf (.int .i64 (IntKind.i64.wrap x31)), .lf (.bool false)] [qi] fun (r33 : Int) =>
 J21 (IntKind.i64.wrap (y22 + (1:Int)))) <|
 leave n0 <| R ()
theorem call_fq_Queue_due (q : Option Pt) (now : Int) (R : Rs.T [] → WP) (w : World) (h : W_fq_Queue_due w.heap.size q now R w) : CW Tryz.prog N_fq_Queue_due [vp q, vu now] [] R w := cs (A := fun w => W_fq_Queue_due w.heap.size q now R w) Tryz.func43 (.s .o (.s .o (.j [] (.s .o (.b (.r [.agg [.int .u64, .int .u64]] .o (.b (.s (.s .o (.s .o .o)) .o))))) (.s .o (.b (.l [(24, qi)] (.s .o (.s (.s .o .o) (.s (.b (.s .o (.s (.d (.f 0 [0] (.f 4 [7] (.f 1 [28] (.f 2 [29] (.f 3 [30] (.w 5 [31, 32] .fin))))))) (.d (.f 0 [0] (.f 4 [7] (.f 1 [34] (.f 5 [38] (.f 2 [35] (.f 6 [39] (.f 3 [36] (.w 7 [37, 40] .fin)))))))))))) .o))))))))) h (by kernel_rfl)
def W_fq_Queue_fate (d : Option Pt) (o : Option Pt) (a : Int) (R : Rs.T [qi] → WP) : WP :=
 drw <|
 deref o fun q1 =>
 deref d fun q2 =>
 ld ci q1 fun (x3 : Int) =>
 req (0 ≤ x3 ∧ x3 < 8) <|
 ld cp ⟨q2.b, q2.o + 9 + x3.toNat * 1⟩ fun (x4 : Option Pt) =>
 deref d fun q5 =>
 lo cu q5 4 fun (x6 : Int) =>
 call Tryz.prog N_sat_Add [vu a, vu x6] [qu] fun (r7 : Int) =>
 join [] (fun J8 =>
 drw <|
 deref d fun q10 =>
 deref d fun q11 =>
 lo ci q10 19 fun (x12 : Int) =>
 lo ci q11 2 fun (x13 : Int) =>
 ite' (decide (x12 ≥ x13)) (
 R (2:Int)) <|
 join cb (fun J14 =>
 drw <|
 ite' (!x4.isNone) (
 deref x4 fun q16 =>
 deref d fun q17 =>
 lo cl q16 3 fun (x18 : Sl) =>
 lo ci q17 3 fun (x19 : Int) =>
 J14 (decide (((x18.len : Nat) : Int) ≥ x19))) <|
 J14 false) fun (y15 : Bool) =>
 ite' y15 (
 R (3:Int)) <|
 deref o fun q20 =>
 lo cu q20 3 fun (x21 : Int) =>
 ite' (decide (x21 > r7)) (
 deref d fun q22 =>
 lo cb q22 6 fun (x23 : Bool) =>
 ite' x23 (
 R (4:Int)) <|
 J8 ()) <|
 J8 ()) fun (y9 : Unit) =>
 deref o fun q24 =>
 lo cu q24 3 fun (x25 : Int) =>
 deref o fun q26 =>
 so q26 3 [.int .u64 (if r7 < x25 then r7 else x25)] <|
 R (0:Int)
theorem call_fq_Queue_fate (d : Option Pt) (o : Option Pt) (a : Int) (R : Rs.T [qi] → WP) (w : World) (h : W_fq_Queue_fate d o a R w) : CW Tryz.prog N_fq_Queue_fate [vp d, vp o, vu a] [qi] R w := cs Tryz.func104 (.s .o (.s (.d (.f 0 [0] (.f 1 [1] (.f 2 [10] (.f 5 [9] (.f 3 [11] (.f 6 [14] (.f 4 [12] (.f 7 [13, 15] (.f 8 [16] (.w 9 [17] .fin))))))))))) (.s .o (.j [] (.b (.s (.d (.f 0 [0] (.f 4 [0] (.f 1 [26] (.f 5 [30] (.f 2 [27] (.f 6 [31] (.f 3 [28] (.f 7 [32] (.f 8 [33] (.f 9 [29, 34] (.w 10 [35] .fin)))))))))))) (.s (.s .o .o) (.j [(36, qb)] (.d (.f 0 [7] (.f 1 [37] (.f 2 [38] (.f 3 [7, 39] (.f 8 [0, 39] (.f 4 [39, 40] (.f 9 [39, 45] (.f 5 [39, 41] (.f 10 [39, 46] (.f 6 [39, 42] (.f 11 [39, 47] (.f 7 [39, 43] (.f 12 [39, 48] (.f 13 [39, 44, 49] (.f 14 [39, 50] (.w 15 [51] .fin))))))))))))))))) (.s (.s .o .o) (.s .o (.s (.s .o .o) .o))))))) (.s .o (.s .o .o)))))) h (by kernel_rfl)
def W_fq_Queue_has (q : Option Pt) (sock : Int) (R : Rs.T [qb] → WP) : WP :=
 ite' (!q.isNone) (
 call Tryz.prog N_fq_within [vi sock, .lf (zi), .lf (.int .i64 (7:Int))] [qb] fun (r1 : Bool) =>
 ite' r1 (
 deref q fun q2 =>
 req (0 ≤ sock ∧ sock < 8) <|
 ld cp ⟨q2.b, q2.o + 9 + sock.toNat * 1⟩ fun (x3 : Option Pt) =>
 R (!x3.isNone)) <|
 R false) <|
 R false
theorem call_fq_Queue_has (q : Option Pt) (sock : Int) (R : Rs.T [qb] → WP) (w : World) (h : W_fq_Queue_has q sock R w) : CW Tryz.prog N_fq_Queue_has [vp q, vi sock] [qb] R w := cs Tryz.func87 (.s .o (.s .o .o)) h (by kernel_rfl)
def W_fq_Queue_idle (q : Option Pt) (sock : Int) (long : Int) (now : Int) (R : Rs.T [qb] → WP) : WP :=
 deref q fun q1 =>
 req (0 ≤ sock ∧ sock < 8) <|
 ld cp ⟨q1.b, q1.o + 9 + sock.toNat * 1⟩ fun (x2 : Option Pt) =>
 ite' (!x2.isNone) (
 call Tryz.prog N_fq_Queue_place [vp q, vi sock] [qi] fun (r3 : Int) =>
 ite' (r3 == (0:Int)) (
 deref x2 fun q4 =>
 lo cu q4 2 fun (x5 : Int) =>
 call Tryz.prog N_sat_Add [vu x5, vu long] [qu] fun (r6 : Int) =>
 R (decide (r6 ≤ now))) <|
 R false) <|
 R false
theorem call_fq_Queue_idle (q : Option Pt) (sock : Int) (long : Int) (now : Int) (R : Rs.T [qb] → WP) (w : World) (h : W_fq_Queue_idle q sock long now R w) : CW Tryz.prog N_fq_Queue_idle [vp q, vi sock, vu long, vu now] [qb] R w := cs Tryz.func144 (.s .o (.s .o (.s .o .o))) h (by kernel_rfl)
def W_fq_Queue_old (n0 : Nat) (q : Option Pt) (R : Rs.T [qb] → WP) : WP :=
 new [.bool false] fun n1 =>
 deref q fun q2 =>
 lo cp q2 17 fun (x3 : Option Pt) =>
 call Tryz.prog N_lists_Lists_All [vp x3] [.lf .fn] fun (r4 : Fv) =>
 rangeF Tryz.prog r4 [qi, qb] (fun (v5 : Int × Bool) mid6 next7 jump8 =>
 mid6 <|
 ite' (!v5.2) (
 st ⟨n1, 0⟩ [.bool true] <|
 jump8 1) <|
 next7) fun i9 => isBy 0 i9 (st ⟨n1, 0⟩ [.bool false] <|
 ld cb ⟨n1, 0⟩ fun (x10 : Bool) =>
 leave n0 <| R x10) <|
 isBy 1 i9 (ld cb ⟨n1, 0⟩ fun (x11 : Bool) =>
 leave n0 <| R x11) <|
 wno
theorem call_fq_Queue_old (q : Option Pt) (R : Rs.T [qb] → WP) (w : World) (h : W_fq_Queue_old w.heap.size q R w) : CW Tryz.prog N_fq_Queue_old [vp q] [qb] R w := cs (A := fun w => W_fq_Queue_old w.heap.size q R w) Tryz.func46 (.s .o (.s (.s .o (.b (.r [qi, qb] .o (.b (.s .o (.s (.s .o .o) .o)))))) (.s .o .o))) h (by kernel_rfl)
def W_fq_Queue_place (q : Option Pt) (sock : Int) (R : Rs.T [qi] → WP) : WP :=
 deref q fun q1 =>
 lo cp q1 17 fun (x2 : Option Pt) =>
 call Tryz.prog N_lists_Lists_Place [vp x2, vi sock] [qi] fun (r3 : Int) =>
 ite' (r3 != (0:Int)) (
 R r3) <|
 deref q fun q4 =>
 req (0 ≤ sock ∧ sock < 8) <|
 ld cp ⟨q4.b, q4.o + 9 + sock.toNat * 1⟩ fun (x5 : Option Pt) =>
 ite' (!x5.isNone) (
 deref x5 fun q6 =>
 lo cl q6 3 fun (x7 : Sl) =>
 ite' (decide (((x7.len : Nat) : Int) > (0:Int))) (
 R (3:Int)) <|
 R (0:Int)) <|
 R (0:Int)
theorem call_fq_Queue_place (q : Option Pt) (sock : Int) (R : Rs.T [qi] → WP) (w : World) (h : W_fq_Queue_place q sock R w) : CW Tryz.prog N_fq_Queue_place [vp q, vi sock] [qi] R w := cs Tryz.func88 (.s .o (.s (.s .o (.s .o (.s (.s .o .o) .o))) (.s (.s .o (.s .o (.s (.s .o .o) .o))) (.s .o .o)))) h (by kernel_rfl)
def W_fq_Queue_send (q : Option Pt) (f : Option Pt) (now : Int) (rate : Int) (R : Rs.T [.agg K_iuiub] → WP) : WP :=
 new [zi, zu, zi, zu, .bool false] fun n1 =>
 deref f fun q2 =>
 lo cl q2 3 fun (x3 : Sl) =>
 idx x3 (0:Int) 5 fun q4 =>
 ld K_iuiub q4 fun (x5 : T_iuiub) =>
 new [zi, zu, zi, zu, .bool false] fun n6 =>
 st ⟨n6, 0⟩ (Ks.mk K_iuiub x5) <|
 deref f fun q7 =>
 lo cl q7 3 fun (x8 : Sl) =>
 slc x8 (some (1:Int)) none none 5 fun s9 =>
 deref f fun q10 =>
 so q10 3 [.sl s9] <|
 deref q fun q11 =>
 lo ci q11 19 fun (x12 : Int) =>
 deref q fun q13 =>
 so q13 19 [.int .i64 (IntKind.i64.wrap (x12 - (1:Int)))] <|
 drw <|
 deref f fun q14 =>
 ld ci ⟨n6, 2⟩ fun (x15 : Int) =>
 ld ci q14 fun (x16 : Int) =>
 deref f fun q17 =>
 st q17 [.int .i64 (IntKind.i64.wrap (x16 - x15))] <|
 drw <|
 ld ci ⟨n6, 2⟩ fun (x18 : Int) =>
 deref q fun q19 =>
 lo cu q19 5 fun (x20 : Int) =>
 call Tryz.prog N_delay_Lesser [vu rate, vu x20] [qu] fun (r21 : Int) =>
 chk ⟨n6, 2⟩ (Ks.mk ci x18) <|
 call Tryz.prog N_delay_Of [vi x18, vu r21] [qu] fun (r22 : Int) =>
 call Tryz.prog N_sat_Add [vu now, vu r22] [qu] fun (r23 : Int) =>
 deref f fun q24 =>
 so q24 1 [.int .u64 r23] <|
 ld K_iuiub ⟨n6, 0⟩ fun (x25 : T_iuiub) =>
 st ⟨n1, 0⟩ (Ks.mk K_iuiub x25) <|
 ld K_iuiub ⟨n1, 0⟩ fun (x26 : T_iuiub) =>
 R x26
theorem call_fq_Queue_send (q : Option Pt) (f : Option Pt) (now : Int) (rate : Int) (R : Rs.T [.agg K_iuiub] → WP) (w : World) (h : W_fq_Queue_send q f now rate R w) : CW Tryz.prog N_fq_Queue_send [vp q, vp f, vu now, vu rate] [.agg K_iuiub] R w := cs Tryz.func51 (.s .o (.s .o (.s .o (.s .o (.s (.d (.f 0 [1] (.f 4 [9] (.f 1 [31] (.f 5 [35] (.f 2 [32] (.f 3 [33] (.f 6 [34, 36] (.f 7 [31] (.f 8 [38] (.w 9 [37, 39] .fin))))))))))) (.s (.d (.f 0 [1] (.f 1 [2] (.f 2 [9] (.f 4 [3] (.f 5 [0] (.f 3 [42] (.f 6 [45] (.f 7 [46] (.f 8 [47] (.f 9 [48] (.w 10 [44, 49] (.w 11 [43, 50] (.w 12 [41, 51] (.f 13 [40] (.f 14 [53] (.w 15 [52, 54] .fin))))))))))))))))) (.s .o .o))))))) h (by kernel_rfl)
def W_fq_Queue_wake (d : Option Pt) (o : Int) (a : Int) (R : Rs.T [] → WP) : WP :=
 deref d fun q1 =>
 req (0 ≤ o ∧ o < 8) <|
 ld cp ⟨q1.b, q1.o + 9 + o.toNat * 1⟩ fun (x2 : Option Pt) =>
 join [] (fun J3 =>
 ite' x2.isNone (
 drw <|
 deref d fun q5 =>
 deref d fun q6 =>
 lo ci q5 1 fun (x7 : Int) =>
 new [.int .i64 x7, zu, zu, .sl ⟨none, 0, 0⟩] fun n8 =>
 req (0 ≤ o ∧ o < 8) <|
 st ⟨q6.b, q6.o + 9 + o.toNat * 1⟩ [.ptr (some ⟨n8, 0⟩)] <|
 J3 ()) <|
 call Tryz.prog N_fq_Queue_place [vp d, vi o] [qi] fun (r9 : Int) =>
 ite' (r9 != (0:Int)) (
 R ()) <|
 call Tryz.prog N_fq_Queue_idle [vp d, vi o, .lf (.int .u64 (40000000:Int)), vu a] [qb] fun (r10 : Bool) =>
 ite' r10 (
 drw <|
 deref x2 fun q11 =>
 deref d fun q12 =>
 ld ci q11 fun (x13 : Int) =>
 ld ci q12 fun (x14 : Int) =>
 deref x2 fun q15 =>
 st q15 [.int .i64 (if x14 > x13 then x14 else x13)] <|
 J3 ()) <|
 J3 ()) fun (y4 : Unit) =>
 deref d fun q16 =>
 req (0 ≤ o ∧ o < 8) <|
 ld cp ⟨q16.b, q16.o + 9 + o.toNat * 1⟩ fun (x17 : Option Pt) =>
 deref x17 fun q18 =>
 so q18 2 [zu] <|
 deref d fun q19 =>
 lo cp q19 17 fun (x20 : Option Pt) =>
 call Tryz.prog N_lists_Lists_Push [vp x20, vi o, .lf (.bool true)] [qi] fun (r21 : Int) =>
 R ()
theorem call_fq_Queue_wake (d : Option Pt) (o : Int) (a : Int) (R : Rs.T [] → WP) (w : World) (h : W_fq_Queue_wake d o a R w) : CW Tryz.prog N_fq_Queue_wake [vp d, vi o, vu a] [] R w := cs Tryz.func105 (.s .o (.j [] (.b (.s .o (.s (.d (.f 0 [0] (.f 1 [1] (.f 2 [0] (.f 3 [18] (.f 9 [16] (.f 4 [19] (.f 10 [25] (.f 5 [20] (.f 6 [21] (.f 7 [22] (.w 8 [23] (.f 11 [17, 26] (.w 12 [24, 27] .fin)))))))))))))) (.s .o (.s .o (.s .o (.s (.d (.f 0 [6] (.f 1 [6] (.f 5 [0] (.f 2 [39] (.f 6 [43] (.f 3 [40] (.f 7 [44] (.f 4 [41] (.f 8 [45] (.f 9 [46] (.f 10 [42, 47] (.f 11 [38] (.f 12 [49] (.w 13 [48, 50] .fin))))))))))))))) .o))))))) (.s .o .o))) h (by kernel_rfl)
def W_fq_flow_time (f : Option Pt) (R : Rs.T [qu] → WP) : WP :=
 drw <|
 deref f fun q1 =>
 deref f fun q2 =>
 lo cu q1 1 fun (x3 : Int) =>
 lo cl q2 3 fun (x4 : Sl) =>
 idx x4 (0:Int) 5 fun q5 =>
 lo cu q5 3 fun (x6 : Int) =>
 R (if x6 > x3 then x6 else x3)
theorem call_fq_flow_time (f : Option Pt) (R : Rs.T [qu] → WP) (w : World) (h : W_fq_flow_time f R w) : CW Tryz.prog N_fq_flow_time [vp f] [qu] R w := cs Tryz.func48 (.s .o (.s (.d (.f 0 [0] (.f 4 [0] (.f 1 [3] (.f 5 [7] (.f 2 [4] (.f 6 [8] (.f 3 [5] (.f 7 [9] (.f 8 [10] (.f 9 [11] (.f 10 [12] (.f 11 [6, 13] (.w 12 [14] .fin)))))))))))))) .o)) h (by kernel_rfl)
def W_fq_key (f : Option Pt) (sock : Int) (R : Rs.T [.agg [.int .u64, .int .u64]] → WP) : WP :=
 new [zu, zu] fun n1 =>
 call Tryz.prog N_fq_flow_time [vp f] [qu] fun (r2 : Int) =>
 st ⟨n1, 0⟩ [.int .u64 r2, .int .u64 (IntKind.u64.wrap sock)] <|
 ld cr ⟨n1, 0⟩ fun (x3 : Int × Int) =>
 R x3
theorem call_fq_key (f : Option Pt) (sock : Int) (R : Rs.T [.agg [.int .u64, .int .u64]] → WP) (w : World) (h : W_fq_key f sock R w) : CW Tryz.prog N_fq_key [vp f, vi sock] [.agg [.int .u64, .int .u64]] R w := cs Tryz.func50 (.s .o (.s .o .o)) h (by kernel_rfl)
def W_fq_within (v : Int) (lo : Int) (hi : Int) (R : Rs.T [qb] → WP) : WP :=
 R ((decide (v ≥ lo)) && (decide (v ≤ hi)))
theorem call_fq_within (v : Int) (lo : Int) (hi : Int) (R : Rs.T [qb] → WP) (w : World) (h : W_fq_within v lo hi R w) : CW Tryz.prog N_fq_within [vi v, vi lo, vi hi] [qb] R w := cs Tryz.func41 (.s .o (.s .o .o)) h (by kernel_rfl)
def W_ledger_Ledger_Note (l : Option Pt) (sock : Int) (fate : Int) (R : Rs.T [qi] → WP) : WP :=
 call Tryz.prog N_ledger_Ledger_may [vp l, vi sock] [qi] fun (r1 : Int) =>
 ite' (r1 != (0:Int)) (
 R r1) <|
 deref l fun q2 =>
 req (0 ≤ sock ∧ sock < 8) <|
 join [] (fun J3 =>
 ite' ((decide (fate < (0:Int))) || (decide (fate ≥ (6:Int)))) (
 R (1:Int)) <|
 ite' (fate == (0:Int)) (
 deref (some ⟨q2.b, q2.o + sock.toNat * 8⟩) fun q5 =>
 lo ci q5 7 fun (x6 : Int) =>
 deref (some ⟨q2.b, q2.o + sock.toNat * 8⟩) fun q7 =>
 so q7 7 [.int .i64 (IntKind.i64.wrap (x6 + (1:Int)))] <|
 J3 ()) <|
 deref (some ⟨q2.b, q2.o + sock.toNat * 8⟩) fun q8 =>
 lo ci q8 7 fun (x9 : Int) =>
 ite' (x9 == (0:Int)) (
 R (7:Int)) <|
 deref (some ⟨q2.b, q2.o + sock.toNat * 8⟩) fun q10 =>
 lo ci q10 7 fun (x11 : Int) =>
 deref (some ⟨q2.b, q2.o + sock.toNat * 8⟩) fun q12 =>
 so q12 7 [.int .i64 (IntKind.i64.wrap (x11 - (1:Int)))] <|
 J3 ()) fun (y4 : Unit) =>
 drw <|
 deref (some ⟨q2.b, q2.o + sock.toNat * 8⟩) fun q13 =>
 deref (some ⟨q2.b, q2.o + sock.toNat * 8⟩) fun q14 =>
 req (0 ≤ fate ∧ fate < 6) <|
 ld ci ⟨q13.b, q13.o + 1 + fate.toNat * 1⟩ fun (x15 : Int) =>
 req (0 ≤ fate ∧ fate < 6) <|
 st ⟨q14.b, q14.o + 1 + fate.toNat * 1⟩ [.int .i64 (IntKind.i64.wrap (x15 + (1:Int)))] <|
 R (0:Int)
theorem call_ledger_Ledger_Note (l : Option Pt) (sock : Int) (fate : Int) (R : Rs.T [qi] → WP) (w : World) (h : W_ledger_Ledger_Note l sock fate R w) : CW Tryz.prog N_ledger_Ledger_Note [vp l, vi sock, vi fate] [qi] R w := cs Tryz.func32 (.s .o (.s (.s .o (.s .o (.s (.s .o .o) .o))) (.s .o (.j [] (.b (.s .o (.s (.s .o .o) (.s .o (.s .o (.s .o (.s (.s .o .o) .o))))))) (.s (.d (.f 0 [8] (.f 1 [2] (.f 2 [50] (.f 7 [50] (.f 3 [52] (.f 8 [57] (.f 4 [51, 53] (.f 5 [54] (.f 6 [55] (.f 9 [51, 58] (.w 10 [56, 59] .fin)))))))))))) (.s .o .o)))))) h (by kernel_rfl)
def W_ledger_Ledger_may (l : Option Pt) (sock : Int) (R : Rs.T [qi] → WP) : WP :=
 ite' l.isNone (
 R (2:Int)) <|
 ite' ((decide (sock < (0:Int))) || (decide (sock ≥ (8:Int)))) (
 R (8:Int)) <|
 R (0:Int)
theorem call_ledger_Ledger_may (l : Option Pt) (sock : Int) (R : Rs.T [qi] → WP) (w : World) (h : W_ledger_Ledger_may l sock R w) : CW Tryz.prog N_ledger_Ledger_may [vp l, vi sock] [qi] R w := cs Tryz.func54 (.s .o (.s (.b (.s .o (.s (.s .o .o) (.s .o (.s (.s .o .o) .o))))) (.s .o .o))) h (by kernel_rfl)
def W_ledger_New  (R : Rs.T [qp] → WP) : WP :=
 new [zi, zi, zi, zi, zi, zi, zi, zi, zi, zi, zi, zi, zi, zi, zi, zi, zi, zi, zi, zi, zi, zi, zi, zi, zi, zi, zi, zi, zi, zi, zi, zi, zi, zi, zi, zi, zi, zi, zi, zi, zi, zi, zi, zi, zi, zi, zi, zi, zi, zi, zi, zi, zi, zi, zi, zi, zi, zi, zi, zi, zi, zi, zi, zi] fun n1 =>
 R (some ⟨n1, 0⟩)
theorem call_ledger_New  (R : Rs.T [qp] → WP) (w : World) (h : W_ledger_New  R w) : CW Tryz.prog N_ledger_New [] [qp] R w := cs Tryz.func19 (.s .o (.s .o .o)) h (by kernel_rfl)
def W_lists_Lists_All (l : Option Pt) (R : Rs.T [.lf .fn] → WP) : WP :=
 new [.ptr l] fun n1 =>
 R (.mk (.func N_lists_Lists_All_c1) [] [V1.enc (.lf (.ptr (some ⟨n1, 0⟩)))])
theorem call_lists_Lists_All (l : Option Pt) (R : Rs.T [.lf .fn] → WP) (w : World) (h : W_lists_Lists_All l R w) : CW Tryz.prog N_lists_Lists_All [vp l] [.lf .fn] R w := cs Tryz.func71 (.s .o (.s .o .o)) h (by kernel_rfl)
def W_lists_Lists_All_c1 (yield : Fv) (c0 : Pt) (R : Rs.T [] → WP) : WP :=
 ld cp c0 fun (x1 : Option Pt) =>
 ite' x1.isNone (
 R ()) <|
 ld cp c0 fun (x2 : Option Pt) =>
 deref x2 fun q3 =>
 ld cl q3 fun (x4 : Sl) =>
 drw <|
 ld cp c0 fun (x5 : Option Pt) =>
 ld cp c0 fun (x6 : Option Pt) =>
 deref x5 fun q7 =>
 deref x6 fun q8 =>
 ld cl q7 fun (x9 : Sl) =>
 lo cl q8 1 fun (x10 : Sl) =>
 new [.sl x9, .sl x10] fun n11 =>
 call Tryz.prog N_slices_Concat_sintint [.lf (.sl ⟨some ⟨n11, 0⟩, 2, 2⟩)] [qs] fun (r12 : Sl) =>
 loop ci (0:Int) fun J13 (y14 : Int) =>
 ite' (decide (y14 < ((r12.len : Nat) : Int))) (
 idx r12 y14 1 fun q15 =>
 ld ci q15 fun (x16 : Int) =>
 callv Tryz.prog yield [vi x16, .lf (.bool (decide (y14 < ((x4.len : Nat) : Int))))] [qb] fun (r17 : Bool) =>
 ite' (!r17) (
 R ()) <|
 J13 (IntKind.i64.wrap (y14 + (1:Int)))) <|
 R ()
theorem call_lists_Lists_All_c1 (yield : Fv) (c0 : Pt) (R : Rs.T [] → WP) (w : World) (h : W_lists_Lists_All_c1 yield c0 R w) : CW Tryz.prog N_lists_Lists_All_c1 [.lf (.fn yield), .lf (.ptr (some c0))] [] R w := cs Tryz.func112 (.s (.s .o (.s .o .o)) (.s .o (.s (.d (.f 0 [1] (.f 4 [1] (.f 11 [] (.f 1 [13] (.f 5 [17] (.f 2 [14] (.f 6 [18] (.f 3 [15] (.f 7 [19] (.w 8 [16, 20] (.w 9 [21] (.f 10 [22] .fin))))))))))))) (.b (.l [(24, qi)] (.s .o (.s (.s .o .o) (.s (.b (.s .o (.s .o (.s .o .o)))) .o)))))))) h (by kernel_rfl)
def W_lists_Lists_Back (l : Option Pt) (R : Rs.T [qb] → WP) : WP :=
 call Tryz.prog N_lists_Lists_Head [vp l] [qi, qb, qb] fun (r1 : Int × Bool × Bool) =>
 ite' r1.2.2 (
 call Tryz.prog N_lists_Lists_Remove [vp l, vi r1.1] [qb] fun (r2 : Bool) =>
 ite' r2 (
 call Tryz.prog N_lists_Lists_Push [vp l, vi r1.1, .lf (.bool false)] [qi] fun (r3 : Int) =>
 R (r3 == (0:Int))) <|
 R false) <|
 R false
theorem call_lists_Lists_Back (l : Option Pt) (R : Rs.T [qb] → WP) (w : World) (h : W_lists_Lists_Back l R w) : CW Tryz.prog N_lists_Lists_Back [vp l] [qb] R w := cs Tryz.func45 (.s .o (.s .o (.s .o .o))) h (by kernel_rfl)
def W_lists_Lists_Drop (l : Option Pt) (R : Rs.T [qb] → WP) : WP :=
 call Tryz.prog N_lists_Lists_Head [vp l] [qi, qb, qb] fun (r1 : Int × Bool × Bool) =>
 ite' r1.2.2 (
 call Tryz.prog N_lists_Lists_Remove [vp l, vi r1.1] [qb] fun (r2 : Bool) =>
 R r2) <|
 R false
theorem call_lists_Lists_Drop (l : Option Pt) (R : Rs.T [qb] → WP) (w : World) (h : W_lists_Lists_Drop l R w) : CW Tryz.prog N_lists_Lists_Drop [vp l] [qb] R w := cs Tryz.func47 (.s .o (.s .o (.s .o .o))) h (by kernel_rfl)
def W_lists_Lists_Head (n0 : Nat) (l : Option Pt) (R : Rs.T [qi, qb, qb] → WP) : WP :=
 new [zi] fun n1 =>
 new [.bool false] fun n2 =>
 new [.bool false] fun n3 =>
 join [] (fun J4 =>
 call Tryz.prog N_lists_Lists_All [vp l] [.lf .fn] fun (r6 : Fv) =>
 rangeF Tryz.prog r6 [qi, qb] (fun (v7 : Int × Bool) mid8 next9 jump10 =>
 mid8 <|
 st ⟨n1, 0⟩ [.int .i64 v7.1] <|
 st ⟨n2, 0⟩ [.bool v7.2] <|
 st ⟨n3, 0⟩ [.bool true] <|
 jump10 1) fun i11 => isBy 0 i11 (J4 ()) <|
 isBy 1 i11 (ld ci ⟨n1, 0⟩ fun (x12 : Int) =>
 ld cb ⟨n2, 0⟩ fun (x13 : Bool) =>
 ld cb ⟨n3, 0⟩ fun (x14 : Bool) =>
 leave n0 <| R (x12, x13, x14)) <|
 wno) fun (y5 : Unit) =>
 st ⟨n1, 0⟩ [zi] <|
 st ⟨n2, 0⟩ [.bool false] <|
 st ⟨n3, 0⟩ [.bool false] <|
 ld ci ⟨n1, 0⟩ fun (x15 : Int) =>
 ld cb ⟨n2, 0⟩ fun (x16 : Bool) =>
 ld cb ⟨n3, 0⟩ fun (x17 : Bool) =>
 leave n0 <| R (x15, x16, x17)
theorem call_lists_Lists_Head (l : Option Pt) (R : Rs.T [qi, qb, qb] → WP) (w : World) (h : W_lists_Lists_Head w.heap.size l R w) : CW Tryz.prog N_lists_Lists_Head [vp l] [qi, qb, qb] R w := cs (A := fun w => W_lists_Lists_Head w.heap.size l R w) Tryz.func44 (.s .o (.j [] (.s .o (.b (.r [qi, qb] (.s .o .o) (.b (.s .o .o))))) (.s .o .o))) h (by kernel_rfl)
def W_lists_Lists_Place (n0 : Nat) (l : Option Pt) (sock : Int) (R : Rs.T [qi] → WP) : WP :=
 new [.int .i64 sock] fun n1 =>
 new [zi] fun n2 =>
 call Tryz.prog N_lists_Lists_All [vp l] [.lf .fn] fun (r3 : Fv) =>
 rangeF Tryz.prog r3 [qi, qb] (fun (v4 : Int × Bool) mid5 next6 jump7 =>
 mid5 <|
 ld ci ⟨n1, 0⟩ fun (x8 : Int) =>
 ite' (v4.1 != x8) (
 next6) <|
 ite' v4.2 (
 st ⟨n2, 0⟩ [.int .i64 (1:Int)] <|
 jump7 1) <|
 st ⟨n2, 0⟩ [.int .i64 (2:Int)] <|
 jump7 1) fun i9 => isBy 0 i9 (st ⟨n2, 0⟩ [zi] <|
 ld ci ⟨n2, 0⟩ fun (x10 : Int) =>
 leave n0 <| R x10) <|
 isBy 1 i9 (ld ci ⟨n2, 0⟩ fun (x11 : Int) =>
 leave n0 <| R x11) <|
 wno
theorem call_lists_Lists_Place (l : Option Pt) (sock : Int) (R : Rs.T [qi] → WP) (w : World) (h : W_lists_Lists_Place w.heap.size l sock R w) : CW Tryz.prog N_lists_Lists_Place [vp l, vi sock] [qi] R w := cs (A := fun w => W_lists_Lists_Place w.heap.size l sock R w) Tryz.func111 (.s .o (.s (.s .o (.b (.r [qi, qb] (.s .o .o) (.b (.s (.s .o (.s .o .o)) (.s (.s .o (.s (.s .o .o) .o)) (.s .o .o))))))) (.s .o .o))) h (by kernel_rfl)
def W_lists_Lists_Push (l : Option Pt) (sock : Int) (fresh : Bool) (R : Rs.T [qi] → WP) : WP :=
 ite' l.isNone (
 R (2:Int)) <|
 ite' ((decide (sock < (0:Int))) || (decide (sock ≥ (8:Int)))) (
 R (8:Int)) <|
 call Tryz.prog N_lists_Lists_Place [vp l, vi sock] [qi] fun (r1 : Int) =>
 ite' (r1 != (0:Int)) (
 R (6:Int)) <|
 ite' fresh (
 deref l fun q2 =>
 ld cl q2 fun (x3 : Sl) =>
 new [.int .i64 sock] fun n4 =>
 app 1 x3 ⟨some ⟨n4, 0⟩, 1, 1⟩ fun s5 =>
 deref l fun q6 =>
 st q6 [.sl s5] <|
 R (0:Int)) <|
 deref l fun q7 =>
 lo cl q7 1 fun (x8 : Sl) =>
 new [.int .i64 sock] fun n9 =>
 app 1 x8 ⟨some ⟨n9, 0⟩, 1, 1⟩ fun s10 =>
 deref l fun q11 =>
 so q11 1 [.sl s10] <|
 R (0:Int)
theorem call_lists_Lists_Push (l : Option Pt) (sock : Int) (fresh : Bool) (R : Rs.T [qi] → WP) (w : World) (h : W_lists_Lists_Push l sock fresh R w) : CW Tryz.prog N_lists_Lists_Push [vp l, vi sock, .lf (.bool fresh)] [qi] R w := cs Tryz.func70 (.s .o (.s (.b (.s .o (.s (.s .o .o) (.s .o (.s (.s .o .o) (.s .o (.s (.s .o .o) (.s .o (.s .o .o))))))))) (.s .o .o))) h (by kernel_rfl)
def W_lists_Lists_Remove (l : Option Pt) (sock : Int) (R : Rs.T [qb] → WP) : WP :=
 new [.int .i64 sock] fun n1 =>
 ld ci ⟨n1, 0⟩ fun (x2 : Int) =>
 call Tryz.prog N_lists_Lists_Place [vp l, vi x2] [qi] fun (r3 : Int) =>
 ite' (r3 == (0:Int)) (
 R false) <|
 drw <|
 deref l fun q4 =>
 deref l fun q5 =>
 ld cl q4 fun (x6 : Sl) =>
 lo cl q5 1 fun (x7 : Sl) =>
 call Tryz.prog N_slices_DeleteFunc_sintint [.lf (.sl x6), .lf (.fn (.mk (.func N_lists_Lists_Remove_c1) [] [V1.enc (.lf (.ptr (some ⟨n1, 0⟩)))]))] [qs] fun (r8 : Sl) =>
 ck q5 1 cl x7 <|
 call Tryz.prog N_slices_DeleteFunc_sintint [.lf (.sl x7), .lf (.fn (.mk (.func N_lists_Lists_Remove_c1) [] [V1.enc (.lf (.ptr (some ⟨n1, 0⟩)))]))] [qs] fun (r9 : Sl) =>
 deref l fun q10 =>
 st q10 [.sl r8] <|
 deref l fun q11 =>
 so q11 1 [.sl r9] <|
 R true
theorem call_lists_Lists_Remove (l : Option Pt) (sock : Int) (R : Rs.T [qb] → WP) (w : World) (h : W_lists_Lists_Remove l sock R w) : CW Tryz.prog N_lists_Lists_Remove [vp l, vi sock] [qb] R w := cs Tryz.func72 (.s .o (.s (.s .o (.s (.s .o .o) .o)) (.s .o (.s (.d (.f 0 [0] (.f 1 [0] (.f 2 [0] (.f 6 [5] (.f 8 [0] (.f 12 [5] (.f 3 [13] (.f 9 [19] (.f 4 [14] (.f 10 [20] (.f 5 [15] (.f 11 [21] (.w 7 [16, 17] (.w 13 [22, 23] (.f 14 [11] (.f 15 [25] (.w 16 [18, 26] (.f 17 [12] (.f 18 [27] (.w 19 [24, 28] .fin))))))))))))))))))))) (.s .o .o))))) h (by kernel_rfl)
def W_lists_Lists_Remove_c1 (s : Int) (c0 : Pt) (R : Rs.T [qb] → WP) : WP :=
 ld ci c0 fun (x1 : Int) =>
 R (s == x1)
theorem call_lists_Lists_Remove_c1 (s : Int) (c0 : Pt) (R : Rs.T [qb] → WP) (w : World) (h : W_lists_Lists_Remove_c1 s c0 R w) : CW Tryz.prog N_lists_Lists_Remove_c1 [vi s, .lf (.ptr (some c0))] [qb] R w := cs Tryz.func114 (.s .o (.s .o .o)) h (by kernel_rfl)
def W_lists_New  (R : Rs.T [qp] → WP) : WP :=
 new [.sl ⟨none, 0, 0⟩, .sl ⟨none, 0, 0⟩] fun n1 =>
 R (some ⟨n1, 0⟩)
theorem call_lists_New  (R : Rs.T [qp] → WP) (w : World) (h : W_lists_New  R w) : CW Tryz.prog N_lists_New [] [qp] R w := cs Tryz.func26 (.s .o (.s .o .o)) h (by kernel_rfl)
def W_math_bits_Add64 (x y c : Int) (R : Rs.T [qu, qu] → WP) : WP :=
 req ((0 ≤ x ∧ 0 ≤ y) ∧ 0 ≤ c ∧ c ≤ 1) <|
 R ((x + y + c) % 18446744073709551616, (x + y + c) / 18446744073709551616)
theorem call_math_bits_Add64 (x y c : Int) (R : Rs.T [qu, qu] → WP) (w : World) (h : W_math_bits_Add64 x y c R w) :
   CallX Tryz.prog N_math_bits_Add64 ([vu x, vu y, vu c].map V1.enc) w fun v w' => ∃ x, v = (retTV (Rs.mk [qu, qu] x)).enc ∧ R x w' := by
 obtain ⟨hp, h⟩ := h
 exact callX_extern Tryz.func40 (by kernel_rfl) (by kernel_rfl) (by kernel_rfl) (x := add64Entry) (by kernel_rfl) (run_add64 x y c hp.1.1 hp.1.2 hp.2.1 hp.2.2 w) ⟨_, rfl, h⟩
def W_math_bits_Mul64 (x : Int) (y : Int) (R : Rs.T [qu, qu] → WP) : WP :=
 req (0 ≤ (32:Int)) <|
 req (0 ≤ (32:Int)) <|
 req (0 ≤ (32:Int)) <|
 req (0 ≤ (32:Int)) <|
 req (0 ≤ (32:Int)) <|
 R ((IntKind.u64.wrap ((IntKind.u64.wrap ((IntKind.u64.wrap ((x.fdiv (2 ^ min (32:Int).toNat IntKind.u64.bits)) * (y.fdiv (2 ^ min (32:Int).toNat IntKind.u64.bits)))) + ((IntKind.u64.wrap ((IntKind.u64.wrap ((x.fdiv (2 ^ min (32:Int).toNat IntKind.u64.bits)) * (IntKind.u64.wrap (BitVec.ofInt IntKind.u64.bits y &&& BitVec.ofInt IntKind.u64.bits (4294967295:Int)).toNat))) + ((IntKind.u64.wrap ((IntKind.u64.wrap (BitVec.ofInt IntKind.u64.bits x &&& BitVec.ofInt IntKind.u64.bits (4294967295:Int)).toNat) * (IntKind.u64.wrap (BitVec.ofInt IntKind.u64.bits y &&& BitVec.ofInt IntKind.u64.bits (4294967295:Int)).toNat))).fdiv (2 ^ min (32:Int).toNat IntKind.u64.bits)))).fdiv (2 ^ min (32:Int).toNat IntKind.u64.bits)))) + ((IntKind.u64.wrap ((IntKind.u64.wrap (BitVec.ofInt IntKind.u64.bits (IntKind.u64.wrap ((IntKind.u64.wrap ((x.fdiv (2 ^ min (32:Int).toNat IntKind.u64.bits)) * (IntKind.u64.wrap (BitVec.ofInt IntKind.u64.bits y &&& BitVec.ofInt IntKind.u64.bits (4294967295:Int)).toNat))) + ((IntKind.u64.wrap ((IntKind.u64.wrap (BitVec.ofInt IntKind.u64.bits x &&& BitVec.ofInt IntKind.u64.bits (4294967295:Int)).toNat) * (IntKind.u64.wrap (BitVec.ofInt IntKind.u64.bits y &&& BitVec.ofInt IntKind.u64.bits (4294967295:Int)).toNat))).fdiv (2 ^ min (32:Int).toNat IntKind.u64.bits)))) &&& BitVec.ofInt IntKind.u64.bits (4294967295:Int)).toNat) + (IntKind.u64.wrap ((IntKind.u64.wrap (BitVec.ofInt IntKind.u64.bits x &&& BitVec.ofInt IntKind.u64.bits (4294967295:Int)).toNat) * (y.fdiv (2 ^ min (32:Int).toNat IntKind.u64.bits)))))).fdiv (2 ^ min (32:Int).toNat IntKind.u64.bits)))), (IntKind.u64.wrap (x * y)))
theorem call_math_bits_Mul64 (x : Int) (y : Int) (R : Rs.T [qu, qu] → WP) (w : World) (h : W_math_bits_Mul64 x y R w) : CW Tryz.prog N_math_bits_Mul64 [vu x, vu y] [qu, qu] R w := cs Tryz.func177 (.s .o (.s .o (.s .o (.s .o (.s .o (.s .o (.s .o (.s .o (.s .o (.s .o (.s .o (.s .o .o)))))))))))) h (by kernel_rfl)
def W_pipe_New  (R : Rs.T [qp] → WP) : WP :=
 new [zu, zi, .bool false] fun n1 =>
 R (some ⟨n1, 0⟩)
theorem call_pipe_New  (R : Rs.T [qp] → WP) (w : World) (h : W_pipe_New  R w) : CW Tryz.prog N_pipe_New [] [qp] R w := cs Tryz.func82 (.s .o (.s .o .o)) h (by kernel_rfl)
def W_pipe_Pipe_Full (p : Option Pt) (R : Rs.T [qb] → WP) : WP :=
 ite' (!p.isNone) (
 deref p fun q1 =>
 lo cb q1 2 fun (x2 : Bool) =>
 R x2) <|
 R false
theorem call_pipe_Pipe_Full (p : Option Pt) (R : Rs.T [qb] → WP) (w : World) (h : W_pipe_Pipe_Full p R w) : CW Tryz.prog N_pipe_Pipe_Full [vp p] [qb] R w := cs Tryz.func124 (.s .o (.s .o .o)) h (by kernel_rfl)
def W_pipe_Pipe_Update (p : Option Pt) (start : Bool) (limited : Bool) (bw : Int) (R : Rs.T [qb] → WP) : WP :=
 join [] (fun J1 =>
 loop [] () fun J3 (y4 : Unit) =>
 join [] (fun J5 =>
 ite' (!p.isNone) (
 deref p fun q7 =>
 lo cb q7 2 fun (x8 : Bool) =>
 ite' (((!x8) && start) && (!limited)) (
 J5 ()) <|
 J1 ()) <|
 J1 ()) fun (y6 : Unit) =>
 deref p fun q9 =>
 ld cu q9 fun (x10 : Int) =>
 call Tryz.prog N_wide_MulDiv [vu x10, .lf (.int .u64 (320:Int)), .lf (.int .u64 (256:Int))] [qu] fun (r11 : Int) =>
 ite' (decide (bw ≥ r11)) (
 deref p fun q12 =>
 st q12 [.int .u64 bw] <|
 deref p fun q13 =>
 so q13 1 [zi] <|
 J1 ()) <|
 deref p fun q14 =>
 lo ci q14 1 fun (x15 : Int) =>
 deref p fun q16 =>
 so q16 1 [.int .i64 (IntKind.i64.wrap (x15 + (1:Int)))] <|
 deref p fun q17 =>
 lo ci q17 1 fun (x18 : Int) =>
 deref p fun q19 =>
 so q19 2 [.bool (x18 == (3:Int))] <|
 J1 ()) fun (y2 : Unit) =>
 call Tryz.prog N_pipe_Pipe_Full [vp p] [qb] fun (r20 : Bool) =>
 R r20
theorem call_pipe_Pipe_Update (p : Option Pt) (start : Bool) (limited : Bool) (bw : Int) (R : Rs.T [qb] → WP) (w : World) (h : W_pipe_Pipe_Update p start limited bw R w) : CW Tryz.prog N_pipe_Pipe_Update [vp p, .lf (.bool start), .lf (.bool limited), vu bw] [qb] R w := cs Tryz.func167 (.s .o (.s .o (.j [] (.b (.l [] (.j [] (.s .o (.s .o .o)) (.b (.s (.s .o (.s (.s .o .o) .o)) (.s .o (.s .o .o))))))) (.s .o .o)))) h (by kernel_rfl)
def W_policer_New  (R : Rs.T [qp] → WP) : WP :=
 new [.bool false, .bool false, zu, zi, zu, zu, zu, zu] fun n1 =>
 R (some ⟨n1, 0⟩)
theorem call_policer_New  (R : Rs.T [qp] → WP) (w : World) (h : W_policer_New  R w) : CW Tryz.prog N_policer_New [] [qp] R w := cs Tryz.func85 (.s .o (.s .o .o)) h (by kernel_rfl)
def W_policer_Policer_Update (d : Option Pt) (o : Bool) (a : T_u8b) (R : Rs.T [] → WP) : WP :=
 new (Ks.mk K_u8b a) fun n1 =>
 loop [] () fun J2 (y3 : Unit) =>
 ite' (!d.isNone) (
 drw <|
 deref d fun q4 =>
 ld cu ⟨n1, 6⟩ fun (x5 : Int) =>
 lo cu q4 4 fun (x6 : Int) =>
 call Tryz.prog N_sat_Add [vu x6, vu x5] [qu] fun (r7 : Int) =>
 deref d fun q8 =>
 so q8 4 [.int .u64 r7] <|
 join cb (fun J9 =>
 deref d fun q11 =>
 ld cb q11 fun (x12 : Bool) =>
 ite' (!x12) (
 deref d fun q13 =>
 lo cb q13 1 fun (x14 : Bool) =>
 J9 (!x14)) <|
 J9 false) fun (y10 : Bool) =>
 ite' y10 (
 ld cu ⟨n1, 6⟩ fun (x15 : Int) =>
 ite' (decide (x15 > (0:Int))) (
 ld K_u8b ⟨n1, 0⟩ fun (x16 : T_u8b) =>
 call Tryz.prog N_policer_Policer_begin [vp d, .agg (Ks.mk K_u8b x16)] [] fun (r17 : Unit) =>
 R ()) <|
 R ()) <|
 join [] (fun J18 =>
 deref d fun q20 =>
 ld cb q20 fun (x21 : Bool) =>
 ite' (!x21) (
 ld cb ⟨n1, 8⟩ fun (x22 : Bool) =>
 ite' x22 (
 call Tryz.prog N_policer_Policer_leave [vp d] [] fun (r23 : Unit) =>
 R ()) <|
 J18 ()) <|
 J18 ()) fun (y19 : Unit) =>
 join [] (fun J24 =>
 ite' o (
 deref d fun q26 =>
 lo ci q26 3 fun (x27 : Int) =>
 deref d fun q28 =>
 so q28 3 [.int .i64 (IntKind.i64.wrap (x27 + (1:Int)))] <|
 J24 ()) <|
 J24 ()) fun (y25 : Unit) =>
 deref d fun q29 =>
 ld cb q29 fun (x30 : Bool) =>
 ite' x30 (
 join cb (fun J31 =>
 ite' o (
 deref d fun q33 =>
 lo ci q33 3 fun (x34 : Int) =>
 J31 (x34 == (48:Int))) <|
 J31 false) fun (y32 : Bool) =>
 ite' y32 (
 call Tryz.prog N_policer_Policer_leave [vp d] [] fun (r35 : Unit) =>
 deref d fun q36 =>
 so q36 3 [zi] <|
 R ()) <|
 R ()) <|
 deref d fun q37 =>
 lo ci q37 3 fun (x38 : Int) =>
 ite' (decide (x38 > (16:Int))) (
 call Tryz.prog N_policer_Policer_leave [vp d] [] fun (r39 : Unit) =>
 R ()) <|
 join cb (fun J40 =>
 deref d fun q42 =>
 lo ci q42 3 fun (x43 : Int) =>
 ite' (decide (x43 ≥ (4:Int))) (
 ld cu ⟨n1, 6⟩ fun (x44 : Int) =>
 J40 (decide (x44 > (0:Int)))) <|
 J40 false) fun (y41 : Bool) =>
 ite' y41 (
 ld K_u8b ⟨n1, 0⟩ fun (x45 : T_u8b) =>
 call Tryz.prog N_policer_Policer_end [vp d, .agg (Ks.mk K_u8b x45)] [] fun (r46 : Unit) =>
 R ()) <|
 R ()) <|
 R ()
theorem call_policer_Policer_Update (d : Option Pt) (o : Bool) (a : T_u8b) (R : Rs.T [] → WP) (w : World) (h : W_policer_Policer_Update d o a R w) : CW Tryz.prog N_policer_Policer_Update [vp d, .lf (.bool o), .agg (Ks.mk K_u8b a)] [] R w := cs Tryz.func163 (.s .o (.s .o (.b (.l [] (.s (.s .o (.s .o .o)) (.b (.s (.d (.f 0 [0] (.f 1 [0] (.f 5 [5] (.f 2 [9] (.f 6 [13] (.f 3 [10] (.f 4 [11] (.w 7 [12, 14] (.f 8 [8] (.f 9 [16] (.w 10 [15, 17] .fin)))))))))))) (.s (.j [(29, qb)] .o (.s (.s (.s .o (.s .o .o)) .o) .o)) (.j [] (.s .o (.s (.s .o .o) .o)) (.j [] (.s .o (.s .o .o)) (.s (.b (.s .o (.s (.j [(67, qb)] .o (.s (.s .o .o) .o)) (.s .o (.s .o (.j [(81, qb)] .o (.s .o .o))))))) .o))))))))))) h (by kernel_rfl)
def W_policer_Policer_Use (p : Option Pt) (R : Rs.T [qu, qb] → WP) : WP :=
 join [] (fun J1 =>
 ite' p.isNone (
 R ((0:Int), false)) <|
 deref p fun q3 =>
 ld cb q3 fun (x4 : Bool) =>
 ite' (!x4) (
 R ((0:Int), false)) <|
 J1 ()) fun (y2 : Unit) =>
 deref p fun q5 =>
 lo cu q5 2 fun (x6 : Int) =>
 R (x6, true)
theorem call_policer_Policer_Use (p : Option Pt) (R : Rs.T [qu, qb] → WP) (w : World) (h : W_policer_Policer_Use p R w) : CW Tryz.prog N_policer_Policer_Use [vp p] [qu, qb] R w := cs Tryz.func156 (.s .o (.j [] (.s .o (.s (.s .o .o) .o)) (.s .o .o))) h (by kernel_rfl)
def W_policer_Policer_begin (p : Option Pt) (s : T_u8b) (R : Rs.T [] → WP) : WP :=
 new (Ks.mk K_u8b s) fun n1 =>
 drw <|
 ld cu ⟨n1, 0⟩ fun (x2 : Int) =>
 ld cu ⟨n1, 1⟩ fun (x3 : Int) =>
 deref p fun q4 =>
 lo cu q4 4 fun (x5 : Int) =>
 deref p fun q6 =>
 so q6 1 [.bool true] <|
 chk ⟨n1, 1⟩ (Ks.mk cu x3) <|
 chk ⟨n1, 0⟩ (Ks.mk cu x2) <|
 deref p fun q7 =>
 so q7 3 [zi] <|
 chk ⟨n1, 1⟩ (Ks.mk cu x3) <|
 chk ⟨n1, 0⟩ (Ks.mk cu x2) <|
 deref p fun q8 =>
 so q8 5 [.int .u64 x2, .int .u64 x3, .int .u64 x5] <|
 R ()
theorem call_policer_Policer_begin (p : Option Pt) (s : T_u8b) (R : Rs.T [] → WP) (w : World) (h : W_policer_Policer_begin p s R w) : CW Tryz.prog N_policer_Policer_begin [vp p, .agg (Ks.mk K_u8b s)] [] R w := cs Tryz.func179 (.s .o (.d (.f 0 [0] (.f 1 [0] (.f 2 [0] (.f 3 [3] (.f 5 [3] (.f 7 [0] (.f 4 [7] (.f 6 [9] (.f 8 [11] (.f 9 [12] (.f 10 [13] (.f 11 [8, 10, 14] (.f 12 [4] (.f 13 [16] (.w 14 [17] (.f 15 [5] (.f 16 [18] (.w 17 [19] (.f 18 [6] (.f 19 [20] (.w 20 [15, 21] .fin))))))))))))))))))))))) h (by kernel_rfl)
def W_policer_Policer_end (d : Option Pt) (o : T_u8b) (R : Rs.T [] → WP) : WP :=
 new (Ks.mk K_u8b o) fun n1 =>
 ld K_u8b ⟨n1, 0⟩ fun (x2 : T_u8b) =>
 call Tryz.prog N_policer_Policer_measured [vp d, .agg (Ks.mk K_u8b x2)] [qu, qb] fun (r3 : Int × Bool) =>
 ite' (!r3.2) (
 R ()) <|
 join cb (fun J4 =>
 drw <|
 deref d fun q6 =>
 lo cu q6 2 fun (x7 : Int) =>
 ite' (decide (x7 > (0:Int))) (
 deref d fun q8 =>
 deref d fun q9 =>
 lo cu q8 2 fun (x10 : Int) =>
 lo cu q9 2 fun (x11 : Int) =>
 call Tryz.prog N_policer_apart [vu x10, vu r3.1] [qu] fun (r12 : Int) =>
 ck q9 2 cu x11 <|
 J4 (decide (r12 ≤ (IntKind.u64.wrap (x11.tdiv (8:Int)))))) <|
 J4 false) fun (y5 : Bool) =>
 ite' y5 (
 drw <|
 deref d fun q13 =>
 deref d fun q14 =>
 lo cu q13 2 fun (x15 : Int) =>
 lo cu q14 2 fun (x16 : Int) =>
 deref d fun q17 =>
 so q17 2 [.int .u64 (IntKind.u64.wrap ((IntKind.u64.wrap ((IntKind.u64.wrap (x15.tdiv (2:Int))) + (IntKind.u64.wrap (r3.1.tdiv (2:Int))))) + (IntKind.u64.wrap (BitVec.ofInt IntKind.u64.bits (IntKind.u64.wrap (BitVec.ofInt IntKind.u64.bits x16 &&& BitVec.ofInt IntKind.u64.bits r3.1).toNat) &&& BitVec.ofInt IntKind.u64.bits (1:Int)).toNat)))] <|
 deref d fun q18 =>
 st q18 [.bool true] <|
 deref d fun q19 =>
 so q19 3 [zi] <|
 R ()) <|
 deref d fun q20 =>
 so q20 2 [.int .u64 r3.1] <|
 ld K_u8b ⟨n1, 0⟩ fun (x21 : T_u8b) =>
 call Tryz.prog N_policer_Policer_begin [vp d, .agg (Ks.mk K_u8b x21)] [] fun (r22 : Unit) =>
 R ()
theorem call_policer_Policer_end (d : Option Pt) (o : T_u8b) (R : Rs.T [] → WP) (w : World) (h : W_policer_Policer_end d o R w) : CW Tryz.prog N_policer_Policer_end [vp d, .agg (Ks.mk K_u8b o)] [] R w := cs Tryz.func181 (.s .o (.s .o (.b (.s .o (.s .o (.j [(22, qb)] (.d (.f 0 [0] (.f 1 [23] (.f 2 [24] (.f 3 [25] (.f 4 [26] (.f 5 [27] (.f 6 [0, 28] (.f 10 [4, 28] (.f 12 [0, 28] (.f 7 [28, 29] (.f 13 [28, 35] (.f 8 [28, 30] (.f 14 [28, 36] (.f 9 [28, 31] (.f 15 [28, 37] (.f 16 [28, 38] (.w 11 [28, 32, 33] (.f 17 [28, 34, 39] (.f 18 [28, 40] (.w 19 [41] .fin))))))))))))))))))))) (.s (.s (.d (.f 0 [0] (.f 1 [0] (.f 6 [4] (.f 9 [0] (.f 13 [4] (.f 2 [43] (.f 7 [48] (.f 10 [51] (.f 3 [44] (.f 11 [52] (.f 4 [45] (.f 12 [53] (.f 5 [46] (.f 14 [54, 55] (.f 8 [47, 49] (.f 15 [56] (.f 16 [50, 57] (.f 17 [42] (.f 18 [59] (.w 19 [58, 60] .fin))))))))))))))))))))) .o) (.s .o .o)))))))) h (by kernel_rfl)
def W_policer_Policer_leave (p : Option Pt) (R : Rs.T [] → WP) : WP :=
 deref p fun q1 =>
 st q1 [.bool false] <|
 deref p fun q2 =>
 so q2 1 [.bool false] <|
 deref p fun q3 =>
 so q3 2 [zu] <|
 R ()
theorem call_policer_Policer_leave (p : Option Pt) (R : Rs.T [] → WP) (w : World) (h : W_policer_Policer_leave p R w) : CW Tryz.prog N_policer_Policer_leave [vp p] [] R w := cs Tryz.func180 .o h (by kernel_rfl)
def W_policer_Policer_measured (p : Option Pt) (s : T_u8b) (R : Rs.T [qu, qb] → WP) : WP :=
 new (Ks.mk K_u8b s) fun n1 =>
 drw <|
 ld cu ⟨n1, 1⟩ fun (x2 : Int) =>
 deref p fun q3 =>
 deref p fun q4 =>
 deref p fun q5 =>
 ld cu ⟨n1, 0⟩ fun (x6 : Int) =>
 deref p fun q7 =>
 lo cu q4 4 fun (x8 : Int) =>
 lo cu q3 6 fun (x9 : Int) =>
 lo cu q5 7 fun (x10 : Int) =>
 lo cu q7 5 fun (x11 : Int) =>
 call Tryz.prog N_sat_Sub [vu x2, vu x9] [qu] fun (r12 : Int) =>
 ck q7 5 cu x11 <|
 ck q5 7 cu x10 <|
 ck q4 4 cu x8 <|
 chk ⟨n1, 0⟩ (Ks.mk cu x6) <|
 call Tryz.prog N_sat_Sub [vu x8, vu x10] [qu] fun (r13 : Int) =>
 ck q7 5 cu x11 <|
 chk ⟨n1, 0⟩ (Ks.mk cu x6) <|
 call Tryz.prog N_sat_Sub [vu x6, vu x11] [qu] fun (r14 : Int) =>
 ite' ((r12 == (0:Int)) || (r14 == (0:Int))) (
 R ((0:Int), false)) <|
 call Tryz.prog N_wide_MulDiv [vu r12, .lf (.int .u64 (50:Int)), .lf (.int .u64 (256:Int))] [qu] fun (r15 : Int) =>
 ite' (decide (r13 < r15)) (
 R ((0:Int), false)) <|
 call Tryz.prog N_wide_MulDiv [vu r12, .lf (.int .u64 (1000000000:Int)), vu r14] [qu] fun (r16 : Int) =>
 R (r16, true)
theorem call_policer_Policer_measured (p : Option Pt) (s : T_u8b) (R : Rs.T [qu, qb] → WP) (w : World) (h : W_policer_Policer_measured p s R w) : CW Tryz.prog N_policer_Policer_measured [vp p, .agg (Ks.mk K_u8b s)] [qu, qb] R w := cs Tryz.func193 (.s .o (.s (.d (.f 0 [3] (.f 2 [0] (.f 8 [0] (.f 12 [0] (.f 18 [3] (.f 20 [0] (.f 1 [9] (.f 3 [11] (.f 9 [17] (.f 13 [21] (.f 19 [27] (.f 21 [29] (.f 4 [12] (.f 10 [18] (.f 14 [22] (.f 22 [30] (.f 5 [13] (.f 11 [19] (.f 15 [23] (.f 23 [31] (.f 6 [14] (.f 16 [24] (.f 24 [32] (.w 7 [10, 15] (.w 17 [20, 25] (.w 25 [28, 33] (.w 26 [16] (.w 27 [26] (.w 28 [34] .fin)))))))))))))))))))))))))))))) (.s (.s .o (.s (.s .o .o) .o)) (.s .o .o)))) h (by kernel_rfl)
def W_policer_apart (a : Int) (b : Int) (R : Rs.T [qu] → WP) : WP :=
 R (IntKind.u64.wrap ((if b > a then b else a) - (if b < a then b else a)))
theorem call_policer_apart (a : Int) (b : Int) (R : Rs.T [qu] → WP) (w : World) (h : W_policer_apart a b R w) : CW Tryz.prog N_policer_apart [vu a, vu b] [qu] R w := cs Tryz.func194 (.s .o (.s .o .o)) h (by kernel_rfl)
def W_probe_New  (R : Rs.T [qp] → WP) : WP :=
 new [zu, zu, .bool false, zu, .bool false] fun n1 =>
 R (some ⟨n1, 0⟩)
theorem call_probe_New  (R : Rs.T [qp] → WP) (w : World) (h : W_probe_New  R w) : CW Tryz.prog N_probe_New [] [qp] R w := cs Tryz.func84 (.s .o (.s .o .o)) h (by kernel_rfl)
def W_probe_Probe_Best (p : Option Pt) (R : Rs.T [qu] → WP) : WP :=
 ite' p.isNone (
 R (0:Int)) <|
 deref p fun q1 =>
 ld cu q1 fun (x2 : Int) =>
 R x2
theorem call_probe_Probe_Best (p : Option Pt) (R : Rs.T [qu] → WP) (w : World) (h : W_probe_Probe_Best p R w) : CW Tryz.prog N_probe_Probe_Best [vp p] [qu] R w := cs Tryz.func120 (.s .o (.s (.s .o (.s (.s .o .o) .o)) (.s .o .o))) h (by kernel_rfl)
def W_probe_Probe_Update (d : Option Pt) (o : Int) (a : Int) (a' : Bool) (a'' : Int) (a''' : Int) (R : Rs.T [qb, qb] → WP) : WP :=
 loop [.bool, .bool] (false, false) fun J1 (y2 : Bool × Bool) =>
 ite' (!d.isNone) (
 join cb (fun J3 =>
 deref d fun q5 =>
 ld cu q5 fun (x6 : Int) =>
 ite' (decide (x6 > (0:Int))) (
 deref d fun q7 =>
 lo cu q7 1 fun (x8 : Int) =>
 call Tryz.prog N_sat_Add [vu x8, .lf (.int .u64 (10000000000:Int))] [qu] fun (r9 : Int) =>
 J3 (decide (o > r9))) <|
 J3 false) fun (y4 : Bool) =>
 join [] (fun J10 =>
 join cb (fun J12 =>
 ite' (decide (a > (0:Int))) (
 deref d fun q14 =>
 ld cu q14 fun (x15 : Int) =>
 ite' (x15 == (0:Int)) (
 J12 true) <|
 deref d fun q16 =>
 ld cu q16 fun (x17 : Int) =>
 J12 ((decide (a ≤ x17)) || y4)) <|
 J12 false) fun (y13 : Bool) =>
 ite' y13 (
 deref d fun q18 =>
 st q18 [.int .u64 a] <|
 deref d fun q19 =>
 so q19 1 [.int .u64 o] <|
 J10 ()) <|
 J10 ()) fun (y11 : Unit) =>
 join cb (fun J20 =>
 ite' y4 (
 deref d fun q22 =>
 lo cb q22 2 fun (x23 : Bool) =>
 J20 (!x23)) <|
 J20 false) fun (y21 : Bool) =>
 ite' y21 (
 deref d fun q24 =>
 so q24 2 [.bool true] <|
 deref d fun q25 =>
 so q25 3 [zu] <|
 deref d fun q26 =>
 so q26 4 [.bool false] <|
 R (true, y2.2)) <|
 deref d fun q27 =>
 lo cb q27 2 fun (x28 : Bool) =>
 ite' x28 (
 call Tryz.prog N_probe_Probe_leaves [vp d, vu o, .lf (.bool a'), .lf (.int .u64 a''), .lf (.int .u64 a''')] [qb] fun (r29 : Bool) =>
 R (y2.1, r29)) <|
 R (y2.1, false)) <|
 R (y2.1, y2.2)
theorem call_probe_Probe_Update (d : Option Pt) (o : Int) (a : Int) (a' : Bool) (a'' : Int) (a''' : Int) (R : Rs.T [qb, qb] → WP) (w : World) (h : W_probe_Probe_Update d o a a' a'' a''' R w) : CW Tryz.prog N_probe_Probe_Update [vp d, vu o, vu a, .lf (.bool a'), .lf (.int .u64 a''), .lf (.int .u64 a''')] [qb, qb] R w := cs Tryz.func187 (.s .o (.s .o (.s .o (.s (.b (.l [(14, qb), (15, qb)] (.s (.s .o (.s .o .o)) (.b (.j [(16, qb)] .o (.j [] (.j [(52, qb)] .o (.s .o .o)) (.s (.j [(68, qb)] .o (.s (.s .o (.s .o .o)) .o)) (.s .o .o)))))))) (.s .o .o))))) h (by kernel_rfl)
def W_probe_Probe_leaves (p : Option Pt) (now : Int) (start : Bool) (flight : Int) (floor : Int) (R : Rs.T [qb] → WP) : WP :=
 deref p fun q1 =>
 lo cu q1 3 fun (x2 : Int) =>
 ite' (x2 == (0:Int)) (
 ite' (decide (flight ≤ floor)) (
 call Tryz.prog N_sat_Add [vu now, .lf (.int .u64 (200000000:Int))] [qu] fun (r3 : Int) =>
 deref p fun q4 =>
 so q4 3 [.int .u64 r3] <|
 deref p fun q5 =>
 so q5 4 [.bool false] <|
 R false) <|
 R false) <|
 deref p fun q6 =>
 lo cb q6 4 fun (x7 : Bool) =>
 deref p fun q8 =>
 so q8 4 [.bool (x7 || start)] <|
 join [] (fun J9 =>
 deref p fun q11 =>
 lo cb q11 4 fun (x12 : Bool) =>
 ite' (!x12) (
 R false) <|
 deref p fun q13 =>
 lo cu q13 3 fun (x14 : Int) =>
 ite' (decide (now ≤ x14)) (
 R false) <|
 J9 ()) fun (y10 : Unit) =>
 deref p fun q15 =>
 so q15 1 [.int .u64 now] <|
 deref p fun q16 =>
 so q16 2 [.bool false] <|
 R true
theorem call_probe_Probe_leaves (p : Option Pt) (now : Int) (start : Bool) (flight : Int) (floor : Int) (R : Rs.T [qb] → WP) (w : World) (h : W_probe_Probe_leaves p now start flight floor R w) : CW Tryz.prog N_probe_Probe_leaves [vp p, vu now, .lf (.bool start), vu flight, vu floor] [qb] R w := cs Tryz.func199 (.s .o (.s (.s .o (.s (.s (.s .o (.s .o .o)) (.s .o .o)) .o)) (.s .o (.j [] (.s .o (.s (.s .o .o) .o)) (.s .o (.s .o .o)))))) h (by kernel_rfl)
def W_rbtree_New (n : Int) (R : Rs.T [qp] → WP) : WP :=
 call Tryz.prog N_arena_New [.lf (.int .i64 (if (4096:Int) < (if (0:Int) > n then (0:Int) else n) then (4096:Int) else (if (0:Int) > n then (0:Int) else n)))] [qp] fun (r1 : Option Pt) =>
 new [.ptr r1, .sl ⟨none, 0, 0⟩, zi, zi, .int .i64 (if (4096:Int) < (if (0:Int) > n then (0:Int) else n) then (4096:Int) else (if (0:Int) > n then (0:Int) else n))] fun n2 =>
 R (some ⟨n2, 0⟩)
theorem call_rbtree_New (n : Int) (R : Rs.T [qp] → WP) (w : World) (h : W_rbtree_New n R w) : CW Tryz.prog N_rbtree_New [vi n] [qp] R w := cs Tryz.func27 (.s .o (.s .o (.s .o .o))) h (by kernel_rfl)
def W_rbtree_Tree_All (t : Option Pt) (R : Rs.T [.lf .fn] → WP) : WP :=
 new [.ptr t] fun n1 =>
 R (.mk (.func N_rbtree_Tree_All_c1) [] [V1.enc (.lf (.ptr (some ⟨n1, 0⟩)))])
theorem call_rbtree_Tree_All (t : Option Pt) (R : Rs.T [.lf .fn] → WP) (w : World) (h : W_rbtree_Tree_All t R w) : CW Tryz.prog N_rbtree_Tree_All [vp t] [.lf .fn] R w := cs Tryz.func68 (.s .o (.s .o .o)) h (by kernel_rfl)
def W_rbtree_Tree_All_c1 (yield : Fv) (c0 : Pt) (R : Rs.T [] → WP) : WP :=
 ld cp c0 fun (x1 : Option Pt) =>
 call Tryz.prog N_rbtree_Tree_root [vp x1] [qi] fun (r2 : Int) =>
 ite' (r2 == (-1:Int)) (
 R ()) <|
 drw <|
 ld cp c0 fun (x3 : Option Pt) =>
 ld cp c0 fun (x4 : Option Pt) =>
 call Tryz.prog N_rbtree_Tree_root [vp x4] [qi] fun (r5 : Int) =>
 chk c0 (Ks.mk cp x3) <|
 call Tryz.prog N_rbtree_Tree_least [vp x3, vi r5] [qs] fun (r6 : Sl) =>
 loop cl r6 fun J7 (y8 : Sl) =>
 ite' (decide (((y8.len : Nat) : Int) > (0:Int))) (
 idx y8 (IntKind.i64.wrap (((y8.len : Nat) : Int) - (1:Int))) 1 fun q9 =>
 ld ci q9 fun (x10 : Int) =>
 slc y8 none (some (IntKind.i64.wrap (((y8.len : Nat) : Int) - (1:Int)))) none 1 fun s11 =>
 ld cp c0 fun (x12 : Option Pt) =>
 deref x12 fun q13 =>
 lo cl q13 1 fun (x14 : Sl) =>
 idx x14 x10 5 fun q15 =>
 ld cr q15 fun (x16 : Int × Int) =>
 callv Tryz.prog yield [.agg (Ks.mk cr x16)] [qb] fun (r17 : Bool) =>
 ite' (!r17) (
 R ()) <|
 drw <|
 ld cp c0 fun (x18 : Option Pt) =>
 ld cp c0 fun (x19 : Option Pt) =>
 deref x19 fun q20 =>
 lo cl q20 1 fun (x21 : Sl) =>
 idx x21 x10 5 fun q22 =>
 lo ci q22 3 fun (x23 : Int) =>
 call Tryz.prog N_rbtree_Tree_least [vp x18, vi x23] [qs] fun (r24 : Sl) =>
 app 1 s11 r24 fun s25 =>
 J7 s25) <|
 R ()
theorem call_rbtree_Tree_All_c1 (yield : Fv) (c0 : Pt) (R : Rs.T [] → WP) (w : World) (h : W_rbtree_Tree_All_c1 yield c0 R w) : CW Tryz.prog N_rbtree_Tree_All_c1 [.lf (.fn yield), .lf (.ptr (some c0))] [] R w := cs Tryz.func106 (.s (.s .o (.s .o .o)) (.s (.d (.f 0 [1] (.f 1 [1] (.w 2 [9] (.w 3 [8, 10] (.w 4 [11] .fin)))))) (.b (.l [(3, qs)] (.s (.s .o (.s .o .o)) (.b (.s .o (.s .o (.s (.s .o (.s .o .o)) (.d (.f 0 [3] (.f 1 [1] (.f 2 [1] (.f 6 [4] (.f 3 [39] (.f 4 [40] (.f 5 [41] (.f 7 [42, 43] (.f 8 [44] (.f 9 [45] (.w 10 [38, 46] (.w 11 [37, 47] (.w 12 [48] .fin))))))))))))))))))))))) h (by kernel_rfl)
def W_rbtree_Tree_Delete (d : Option Pt) (o : Int × Int) (R : Rs.T [qi] → WP) : WP :=
 new (Ks.mk cr o) fun n1 =>
 ite' d.isNone (
 R (2:Int)) <|
 ld cr ⟨n1, 0⟩ fun (x2 : Int × Int) =>
 call Tryz.prog N_rbtree_Tree_way [vp d, .agg (Ks.mk cr x2)] [qs] fun (r3 : Sl) =>
 ld cr ⟨n1, 0⟩ fun (x4 : Int × Int) =>
 call Tryz.prog N_rbtree_Tree_found [vp d, .lf (.sl r3), .agg (Ks.mk cr x4)] [qi] fun (r5 : Int) =>
 ite' (r5 == (-1:Int)) (
 R (7:Int)) <|
 join [.sl, .int .i64] (fun J6 =>
 join cb (fun J8 =>
 deref d fun q10 =>
 lo cl q10 1 fun (x11 : Sl) =>
 idx x11 r5 5 fun q12 =>
 lo ci q12 2 fun (x13 : Int) =>
 ite' (x13 != (-1:Int)) (
 deref d fun q14 =>
 lo cl q14 1 fun (x15 : Sl) =>
 idx x15 r5 5 fun q16 =>
 lo ci q16 3 fun (x17 : Int) =>
 J8 (x17 != (-1:Int))) <|
 J8 false) fun (y9 : Bool) =>
 ite' y9 (
 deref d fun q18 =>
 lo cl q18 1 fun (x19 : Sl) =>
 idx x19 r5 5 fun q20 =>
 lo ci q20 3 fun (x21 : Int) =>
 call Tryz.prog N_rbtree_Tree_least [vp d, vi x21] [qs] fun (r22 : Sl) =>
 idx r22 (IntKind.i64.wrap (((r22.len : Nat) : Int) - (1:Int))) 1 fun q23 =>
 ld ci q23 fun (x24 : Int) =>
 drw <|
 deref d fun q25 =>
 deref d fun q26 =>
 lo cl q25 1 fun (x27 : Sl) =>
 lo cl q26 1 fun (x28 : Sl) =>
 idx x28 x24 5 fun q29 =>
 ld cr q29 fun (x30 : Int × Int) =>
 idx x27 r5 5 fun q31 =>
 st q31 (Ks.mk cr x30) <|
 app 1 r3 r22 fun s32 =>
 J6 (s32, x24)) <|
 J6 (r3, r5)) fun (y7 : Sl × Int) =>
 deref d fun q33 =>
 lo cl q33 1 fun (x34 : Sl) =>
 idx x34 y7.2 5 fun q35 =>
 lo ci q35 2 fun (x36 : Int) =>
 join ci (fun J37 =>
 ite' (x36 == (-1:Int)) (
 deref d fun q39 =>
 lo cl q39 1 fun (x40 : Sl) =>
 idx x40 y7.2 5 fun q41 =>
 lo ci q41 3 fun (x42 : Int) =>
 J37 x42) <|
 J37 x36) fun (y38 : Int) =>
 slc y7.1 none (some (IntKind.i64.wrap (((y7.1.len : Nat) : Int) - (1:Int)))) none 1 fun s43 =>
 call Tryz.prog N_rbtree_Tree_drop [vp d, .lf (.sl s43), vi y7.2, vi y38] [] fun (r44 : Unit) =>
 deref d fun q45 =>
 lo ci q45 3 fun (x46 : Int) =>
 deref d fun q47 =>
 so q47 3 [.int .i64 (IntKind.i64.wrap (x46 - (1:Int)))] <|
 deref d fun q48 =>
 ld cp q48 fun (x49 : Option Pt) =>
 call Tryz.prog N_arena_Arena_Free [vp x49, vi y7.2] [qi] fun (r50 : Int) =>
 R r50
theorem call_rbtree_Tree_Delete (d : Option Pt) (o : Int × Int) (R : Rs.T [qi] → WP) (w : World) (h : W_rbtree_Tree_Delete d o R w) : CW Tryz.prog N_rbtree_Tree_Delete [vp d, .agg (Ks.mk cr o)] [qi] R w := cs Tryz.func69 (.s .o (.s (.s .o (.s (.s .o .o) .o)) (.s .o (.s .o (.s (.s .o (.s (.s .o .o) .o)) (.j [(5, qs), (6, qi)] (.j [(40, qb)] .o (.s (.s .o (.s .o (.s (.d (.f 0 [0] (.f 4 [6] (.f 5 [0] (.f 9 [8] (.f 1 [57] (.f 6 [62] (.f 2 [58] (.f 7 [63] (.f 3 [59] (.f 8 [64] (.f 10 [65, 66] (.f 11 [67] (.f 12 [68] (.f 13 [60, 61] (.f 14 [70] (.w 15 [69, 71] .fin))))))))))))))))) .o))) .o)) (.s .o (.j [(9, qi)] (.s .o (.s .o .o)) (.s .o (.s .o (.s .o .o))))))))))) h (by kernel_rfl)
def W_rbtree_Tree_Insert (d : Option Pt) (o : Int × Int) (R : Rs.T [qi] → WP) : WP :=
 new (Ks.mk cr o) fun n1 =>
 ite' d.isNone (
 R (2:Int)) <|
 ld cr ⟨n1, 0⟩ fun (x2 : Int × Int) =>
 call Tryz.prog N_rbtree_Tree_way [vp d, .agg (Ks.mk cr x2)] [qs] fun (r3 : Sl) =>
 ld cr ⟨n1, 0⟩ fun (x4 : Int × Int) =>
 call Tryz.prog N_rbtree_Tree_found [vp d, .lf (.sl r3), .agg (Ks.mk cr x4)] [qi] fun (r5 : Int) =>
 ite' (r5 != (-1:Int)) (
 R (6:Int)) <|
 drw <|
 deref d fun q6 =>
 deref d fun q7 =>
 lo ci q6 3 fun (x8 : Int) =>
 lo ci q7 4 fun (x9 : Int) =>
 ite' (decide (x8 ≥ x9)) (
 R (5:Int)) <|
 deref d fun q10 =>
 ld cp q10 fun (x11 : Option Pt) =>
 call Tryz.prog N_arena_Arena_Get [vp x11] [qi, qi] fun (r12 : Int × Int) =>
 ite' (r12.2 != (0:Int)) (
 R r12.2) <|
 join [] (fun J13 =>
 deref d fun q15 =>
 lo cl q15 1 fun (x16 : Sl) =>
 ite' (r12.1 == ((x16.len : Nat) : Int)) (
 deref d fun q17 =>
 lo cl q17 1 fun (x18 : Sl) =>
 new [zu, zu, zi, zi, zi] fun n19 =>
 app 5 x18 ⟨some ⟨n19, 0⟩, 1, 1⟩ fun s20 =>
 deref d fun q21 =>
 so q21 1 [.sl s20] <|
 J13 ()) <|
 J13 ()) fun (y14 : Unit) =>
 drw <|
 ld cr ⟨n1, 0⟩ fun (x22 : Int × Int) =>
 deref d fun q23 =>
 lo cl q23 1 fun (x24 : Sl) =>
 idx x24 r12.1 5 fun q25 =>
 st q25 [.int .u64 x22.1, .int .u64 x22.2, .int .i64 (-1:Int), .int .i64 (-1:Int), .int .i64 (1:Int)] <|
 deref d fun q26 =>
 lo ci q26 3 fun (x27 : Int) =>
 deref d fun q28 =>
 so q28 3 [.int .i64 (IntKind.i64.wrap (x27 + (1:Int)))] <|
 call Tryz.prog N_rbtree_Tree_hang [vp d, .lf (.sl r3), .lf (.int .i64 (-1:Int)), vi r12.1] [] fun (r29 : Unit) =>
 R (0:Int)
theorem call_rbtree_Tree_Insert (d : Option Pt) (o : Int × Int) (R : Rs.T [qi] → WP) (w : World) (h : W_rbtree_Tree_Insert d o R w) : CW Tryz.prog N_rbtree_Tree_Insert [vp d, .agg (Ks.mk cr o)] [qi] R w := cs Tryz.func49 (.s .o (.s (.s .o (.s (.s .o .o) .o)) (.s .o (.s (.b (.s .o (.s (.s .o .o) (.s (.d (.f 0 [0] (.f 4 [0] (.f 1 [20] (.f 5 [24] (.f 2 [21] (.f 6 [25] (.f 3 [22] (.f 7 [26] (.f 8 [23, 27] (.w 9 [28] .fin))))))))))) (.s (.s .o .o) .o))))) (.s .o (.s (.s .o (.s (.s .o .o) .o)) (.j [] (.s .o (.s .o .o)) (.s (.d (.f 0 [0] (.f 4 [6] (.f 5 [3] (.f 1 [57] (.f 6 [62] (.f 2 [58] (.f 3 [59] (.f 7 [60, 61] (.w 8 [63, 64] .fin)))))))))) (.s .o (.s .o (.s .o .o))))))))))) h (by kernel_rfl)
def W_rbtree_Tree_Min (n0 : Nat) (t : Option Pt) (R : Rs.T [.agg [.int .u64, .int .u64], qb] → WP) : WP :=
 new [zu, zu] fun n1 =>
 new [.bool false] fun n2 =>
 join [] (fun J3 =>
 call Tryz.prog N_rbtree_Tree_All [vp t] [.lf .fn] fun (r5 : Fv) =>
 rangeF Tryz.prog r5 [.agg [.int .u64, .int .u64]] (fun (v6 : (Int × Int)) mid7 next8 jump9 =>
 new [zu, zu] fun n10 =>
 st ⟨n10, 0⟩ (Ks.mk cr v6) <|
 mid7 <|
 ld cr ⟨n10, 0⟩ fun (x11 : Int × Int) =>
 st ⟨n1, 0⟩ (Ks.mk cr x11) <|
 st ⟨n2, 0⟩ [.bool true] <|
 jump9 1) fun i12 => isBy 0 i12 (J3 ()) <|
 isBy 1 i12 (ld cr ⟨n1, 0⟩ fun (x13 : Int × Int) =>
 ld cb ⟨n2, 0⟩ fun (x14 : Bool) =>
 leave n0 <| R (x13, x14)) <|
 wno) fun (y4 : Unit) =>
 st ⟨n1, 0⟩ [zu, zu] <|
 st ⟨n2, 0⟩ [.bool false] <|
 ld cr ⟨n1, 0⟩ fun (x15 : Int × Int) =>
 ld cb ⟨n2, 0⟩ fun (x16 : Bool) =>
 leave n0 <| R (x15, x16)
theorem call_rbtree_Tree_Min (t : Option Pt) (R : Rs.T [.agg [.int .u64, .int .u64], qb] → WP) (w : World) (h : W_rbtree_Tree_Min w.heap.size t R w) : CW Tryz.prog N_rbtree_Tree_Min [vp t] [.agg [.int .u64, .int .u64], qb] R w := cs (A := fun w => W_rbtree_Tree_Min w.heap.size t R w) Tryz.func55 (.s .o (.j [] (.s .o (.b (.r [.agg [.int .u64, .int .u64]] .o (.b (.s .o .o))))) (.s .o .o))) h (by kernel_rfl)
def W_rbtree_Tree_drop (t : Option Pt) (way : Sl) (was : Int) (i : Int) (R : Rs.T [] → WP) : WP :=
 loop K_i3 (was, i, (IntKind.i64.wrap (((way.len : Nat) : Int) - (1:Int)))) fun J1 (y2 : T_i3) =>
 ite' (decide (y2.2.2 ≥ (0:Int))) (
 idx way y2.2.2 1 fun q3 =>
 ld ci q3 fun (x4 : Int) =>
 deref t fun q5 =>
 lo cl q5 1 fun (x6 : Sl) =>
 idx x6 x4 5 fun q7 =>
 lo ci q7 2 fun (x8 : Int) =>
 ite' (x8 == y2.1) (
 deref t fun q9 =>
 lo cl q9 1 fun (x10 : Sl) =>
 idx x10 x4 5 fun q11 =>
 so q11 2 [.int .i64 y2.2.1] <|
 call Tryz.prog N_rbtree_Tree_even [vp t, vi x4] [qi] fun (r12 : Int) =>
 J1 (x4, r12, (IntKind.i64.wrap (y2.2.2 - (1:Int))))) <|
 deref t fun q13 =>
 lo cl q13 1 fun (x14 : Sl) =>
 idx x14 x4 5 fun q15 =>
 so q15 3 [.int .i64 y2.2.1] <|
 call Tryz.prog N_rbtree_Tree_even [vp t, vi x4] [qi] fun (r16 : Int) =>
 J1 (x4, r16, (IntKind.i64.wrap (y2.2.2 - (1:Int))))) <|
 deref t fun q17 =>
 so q17 2 [.int .i64 (IntKind.i64.wrap (y2.2.1 + (1:Int)))] <|
 R ()
theorem call_rbtree_Tree_drop (t : Option Pt) (way : Sl) (was : Int) (i : Int) (R : Rs.T [] → WP) (w : World) (h : W_rbtree_Tree_drop t way was i R w) : CW Tryz.prog N_rbtree_Tree_drop [vp t, .lf (.sl way), vi was, vi i] [] R w := cs Tryz.func109 (.s (.s .o (.b (.l [(2, qi), (3, qi), (8, qi)] (.s (.s .o (.s .o .o)) (.s (.b (.s .o (.s (.s .o (.s .o .o)) .o))) .o))))) .o) h (by kernel_rfl)
def W_rbtree_Tree_even (d : Option Pt) (o : Int) (R : Rs.T [qi] → WP) : WP :=
 call Tryz.prog N_rbtree_Tree_mend [vp d, vi o] [] fun (r1 : Unit) =>
 call Tryz.prog N_rbtree_Tree_lean [vp d, vi o] [qi] fun (r2 : Int) =>
 ite' (decide (r2 > (1:Int))) (
 deref d fun q3 =>
 lo cl q3 1 fun (x4 : Sl) =>
 idx x4 o 5 fun q5 =>
 lo ci q5 2 fun (x6 : Int) =>
 call Tryz.prog N_rbtree_Tree_lean [vp d, vi x6] [qi] fun (r7 : Int) =>
 ite' (decide (r7 < (0:Int))) (
 drw <|
 deref d fun q8 =>
 deref d fun q9 =>
 lo cl q8 1 fun (x10 : Sl) =>
 lo cl q9 1 fun (x11 : Sl) =>
 idx x11 o 5 fun q12 =>
 lo ci q12 2 fun (x13 : Int) =>
 call Tryz.prog N_rbtree_Tree_turnLeft [vp d, vi x13] [qi] fun (r14 : Int) =>
 ck q8 1 cl x10 <|
 idx x10 o 5 fun q15 =>
 so q15 2 [.int .i64 r14] <|
 call Tryz.prog N_rbtree_Tree_turnRight [vp d, vi o] [qi] fun (r16 : Int) =>
 R r16) <|
 call Tryz.prog N_rbtree_Tree_turnRight [vp d, vi o] [qi] fun (r17 : Int) =>
 R r17) <|
 ite' (decide (r2 < (-1:Int))) (
 deref d fun q18 =>
 lo cl q18 1 fun (x19 : Sl) =>
 idx x19 o 5 fun q20 =>
 lo ci q20 3 fun (x21 : Int) =>
 call Tryz.prog N_rbtree_Tree_lean [vp d, vi x21] [qi] fun (r22 : Int) =>
 ite' (decide (r22 > (0:Int))) (
 drw <|
 deref d fun q23 =>
 deref d fun q24 =>
 lo cl q23 1 fun (x25 : Sl) =>
 lo cl q24 1 fun (x26 : Sl) =>
 idx x26 o 5 fun q27 =>
 lo ci q27 3 fun (x28 : Int) =>
 call Tryz.prog N_rbtree_Tree_turnRight [vp d, vi x28] [qi] fun (r29 : Int) =>
 ck q23 1 cl x25 <|
 idx x25 o 5 fun q30 =>
 so q30 3 [.int .i64 r29] <|
 call Tryz.prog N_rbtree_Tree_turnLeft [vp d, vi o] [qi] fun (r31 : Int) =>
 R r31) <|
 call Tryz.prog N_rbtree_Tree_turnLeft [vp d, vi o] [qi] fun (r32 : Int) =>
 R r32) <|
 R o
theorem call_rbtree_Tree_even (d : Option Pt) (o : Int) (R : Rs.T [qi] → WP) (w : World) (h : W_rbtree_Tree_even d o R w) : CW Tryz.prog N_rbtree_Tree_even [vp d, vi o] [qi] R w := cs Tryz.func117 (.s .o (.s .o (.s (.s .o (.b (.s .o (.s (.s (.s .o (.s (.d (.f 0 [0] (.f 4 [1] (.f 5 [0] (.f 6 [0] (.f 10 [1] (.f 1 [26] (.f 7 [32] (.f 2 [27] (.f 8 [33] (.f 3 [28] (.f 9 [34] (.f 11 [35, 36] (.f 12 [37] (.f 13 [38] (.w 14 [31, 39] (.f 15 [29, 30] (.f 16 [41] (.w 17 [40, 42] .fin))))))))))))))))))) .o)) (.s .o .o)) (.s .o (.s (.s (.s .o (.s (.d (.f 0 [0] (.f 4 [1] (.f 5 [0] (.f 6 [0] (.f 10 [1] (.f 1 [60] (.f 7 [66] (.f 2 [61] (.f 8 [67] (.f 3 [62] (.f 9 [68] (.f 11 [69, 70] (.f 12 [71] (.f 13 [72] (.w 14 [65, 73] (.f 15 [63, 64] (.f 16 [75] (.w 17 [74, 76] .fin))))))))))))))))))) .o)) (.s .o .o)) .o)))))) (.s .o .o)))) h (by kernel_rfl)
def W_rbtree_Tree_found (t : Option Pt) (way : Sl) (k : Int × Int) (R : Rs.T [qi] → WP) : WP :=
 new (Ks.mk cr k) fun n1 =>
 join cb (fun J2 =>
 drw <|
 ite' (decide (((way.len : Nat) : Int) > (0:Int))) (
 ld cr ⟨n1, 0⟩ fun (x4 : Int × Int) =>
 deref t fun q5 =>
 idx way (IntKind.i64.wrap (((way.len : Nat) : Int) - (1:Int))) 1 fun q6 =>
 lo cl q5 1 fun (x7 : Sl) =>
 ld ci q6 fun (x8 : Int) =>
 idx x7 x8 5 fun q9 =>
 ld cr q9 fun (x10 : Int × Int) =>
 J2 ((x10.1 == x4.1) && (x10.2 == x4.2))) <|
 J2 false) fun (y3 : Bool) =>
 ite' y3 (
 idx way (IntKind.i64.wrap (((way.len : Nat) : Int) - (1:Int))) 1 fun q11 =>
 ld ci q11 fun (x12 : Int) =>
 R x12) <|
 R (-1:Int)
theorem call_rbtree_Tree_found (t : Option Pt) (way : Sl) (k : Int × Int) (R : Rs.T [qi] → WP) (w : World) (h : W_rbtree_Tree_found t way k R w) : CW Tryz.prog N_rbtree_Tree_found [vp t, .lf (.sl way), .agg (Ks.mk cr k)] [qi] R w := cs Tryz.func74 (.s .o (.s (.s .o (.j [(27, qb)] (.d (.f 0 [7] (.f 1 [10] (.f 2 [11] (.f 3 [0, 12] (.f 7 [1, 12] (.f 8 [7, 12] (.f 15 [5, 12] (.f 4 [12, 13] (.f 9 [12, 18] (.f 5 [12, 14] (.f 10 [12, 17, 19] (.f 6 [12, 15] (.f 11 [12, 20] (.f 12 [12, 16, 21] (.f 13 [12, 22] (.f 14 [12, 23] (.f 16 [12, 24, 25] (.f 17 [12, 26] .fin))))))))))))))))))) (.s (.s .o .o) .o))) (.s .o .o))) h (by kernel_rfl)
def W_rbtree_Tree_hang (d : Option Pt) (o : Sl) (a : Int) (a' : Int) (R : Rs.T [] → WP) : WP :=
 loop K_i3 (a, a', (IntKind.i64.wrap (((o.len : Nat) : Int) - (1:Int)))) fun J1 (y2 : T_i3) =>
 ite' (decide (y2.2.2 ≥ (0:Int))) (
 idx o y2.2.2 1 fun q3 =>
 ld ci q3 fun (x4 : Int) =>
 join cb (fun J5 =>
 drw <|
 deref d fun q7 =>
 lo cl q7 1 fun (x8 : Sl) =>
 idx x8 x4 5 fun q9 =>
 lo ci q9 2 fun (x10 : Int) =>
 ite' (x10 == y2.1) (
 ite' (y2.1 != (-1:Int)) (
 J5 true) <|
 deref d fun q11 =>
 deref d fun q12 =>
 lo cl q11 1 fun (x13 : Sl) =>
 lo cl q12 1 fun (x14 : Sl) =>
 idx x13 y2.2.1 5 fun q15 =>
 idx x14 x4 5 fun q16 =>
 ld cr q15 fun (x17 : Int × Int) =>
 ld cr q16 fun (x18 : Int × Int) =>
 call Tryz.prog N_rbtree_compare [.agg (Ks.mk cr x17), .agg (Ks.mk cr x18)] [qi] fun (r19 : Int) =>
 J5 (decide (r19 < (0:Int)))) <|
 J5 false) fun (y6 : Bool) =>
 ite' y6 (
 deref d fun q20 =>
 lo cl q20 1 fun (x21 : Sl) =>
 idx x21 x4 5 fun q22 =>
 so q22 2 [.int .i64 y2.2.1] <|
 call Tryz.prog N_rbtree_Tree_even [vp d, vi x4] [qi] fun (r23 : Int) =>
 J1 (x4, r23, (IntKind.i64.wrap (y2.2.2 - (1:Int))))) <|
 deref d fun q24 =>
 lo cl q24 1 fun (x25 : Sl) =>
 idx x25 x4 5 fun q26 =>
 so q26 3 [.int .i64 y2.2.1] <|
 call Tryz.prog N_rbtree_Tree_even [vp d, vi x4] [qi] fun (r27 : Int) =>
 J1 (x4, r27, (IntKind.i64.wrap (y2.2.2 - (1:Int))))) <|
 deref d fun q28 =>
 so q28 2 [.int .i64 (IntKind.i64.wrap (y2.2.1 + (1:Int)))] <|
 R ()
theorem call_rbtree_Tree_hang (d : Option Pt) (o : Sl) (a : Int) (a' : Int) (R : Rs.T [] → WP) (w : World) (h : W_rbtree_Tree_hang d o a a' R w) : CW Tryz.prog N_rbtree_Tree_hang [vp d, .lf (.sl o), vi a, .lf (.int .i64 a')] [] R w := cs Tryz.func76 (.s (.s .o (.b (.l [(2, qi), (3, qi), (8, qi)] (.s (.s .o (.s .o .o)) (.s (.b (.s .o (.s (.j [(54, qb)] (.d (.f 0 [0] (.f 4 [9] (.f 8 [2] (.f 1 [21] (.f 2 [22] (.f 3 [23] (.f 5 [24, 25] (.f 6 [26] (.f 7 [27] (.f 9 [28, 29] (.f 10 [30] (.f 11 [2, 31] (.f 12 [31, 32] (.f 13 [31, 33] (.f 14 [0, 34] (.f 18 [3, 34] (.f 22 [0, 34] (.f 26 [9, 34] (.f 15 [34, 35] (.f 23 [34, 43] (.f 16 [34, 36] (.f 24 [34, 44] (.f 17 [34, 37] (.f 25 [34, 45] (.f 19 [34, 38, 39] (.f 27 [34, 46, 47] (.f 20 [34, 40] (.f 28 [34, 48] (.f 21 [34, 41] (.f 29 [34, 49] (.w 30 [34, 42, 50] (.f 31 [34, 51] (.f 32 [31, 34, 52] (.f 33 [31, 53] .fin))))))))))))))))))))))))))))))))))) (.s .o .o)) .o))) .o))))) .o) h (by kernel_rfl)
def W_rbtree_Tree_high (t : Option Pt) (i : Int) (R : Rs.T [qi] → WP) : WP :=
 ite' (i == (-1:Int)) (
 R (0:Int)) <|
 deref t fun q1 =>
 lo cl q1 1 fun (x2 : Sl) =>
 idx x2 i 5 fun q3 =>
 lo ci q3 4 fun (x4 : Int) =>
 R x4
theorem call_rbtree_Tree_high (t : Option Pt) (i : Int) (R : Rs.T [qi] → WP) (w : World) (h : W_rbtree_Tree_high t i R w) : CW Tryz.prog N_rbtree_Tree_high [vp t, vi i] [qi] R w := cs Tryz.func176 (.s .o (.s (.s .o (.s (.s .o .o) .o)) (.s .o .o))) h (by kernel_rfl)
def W_rbtree_Tree_lean (t : Option Pt) (i : Int) (R : Rs.T [qi] → WP) : WP :=
 drw <|
 deref t fun q1 =>
 deref t fun q2 =>
 lo cl q1 1 fun (x3 : Sl) =>
 lo cl q2 1 fun (x4 : Sl) =>
 idx x3 i 5 fun q5 =>
 idx x4 i 5 fun q6 =>
 lo ci q5 2 fun (x7 : Int) =>
 lo ci q6 3 fun (x8 : Int) =>
 call Tryz.prog N_rbtree_Tree_high [vp t, vi x7] [qi] fun (r9 : Int) =>
 ck q6 3 ci x8 <|
 ck q2 1 cl x4 <|
 call Tryz.prog N_rbtree_Tree_high [vp t, vi x8] [qi] fun (r10 : Int) =>
 R (IntKind.i64.wrap (r9 - r10))
theorem call_rbtree_Tree_lean (t : Option Pt) (i : Int) (R : Rs.T [qi] → WP) (w : World) (h : W_rbtree_Tree_lean t i R w) : CW Tryz.prog N_rbtree_Tree_lean [vp t, vi i] [qi] R w := cs Tryz.func151 (.s .o (.s (.d (.f 0 [0] (.f 1 [0] (.f 5 [1] (.f 10 [0] (.f 11 [0] (.f 15 [1] (.f 2 [6] (.f 12 [16] (.f 3 [7] (.f 13 [17] (.f 4 [8] (.f 14 [18] (.f 6 [9, 10] (.f 16 [19, 20] (.f 7 [11] (.f 17 [21] (.f 8 [12] (.f 18 [22] (.w 9 [5, 13] (.w 19 [15, 23] (.f 20 [14, 24] (.w 21 [25] .fin))))))))))))))))))))))) .o)) h (by kernel_rfl)
def W_rbtree_Tree_least (t : Option Pt) (i : Int) (R : Rs.T [qs] → WP) : WP :=
 loop [.int .i64, .sl] (i, ⟨none, 0, 0⟩) fun J1 (y2 : Int × Sl) =>
 ite' (y2.1 != (-1:Int)) (
 new [.int .i64 y2.1] fun n3 =>
 app 1 y2.2 ⟨some ⟨n3, 0⟩, 1, 1⟩ fun s4 =>
 deref t fun q5 =>
 lo cl q5 1 fun (x6 : Sl) =>
 idx x6 y2.1 5 fun q7 =>
 lo ci q7 2 fun (x8 : Int) =>
 J1 (x8, s4)) <|
 R y2.2
theorem call_rbtree_Tree_least (t : Option Pt) (i : Int) (R : Rs.T [qs] → WP) (w : World) (h : W_rbtree_Tree_least t i R w) : CW Tryz.prog N_rbtree_Tree_least [vp t, vi i] [qs] R w := cs Tryz.func108 (.s .o (.s .o (.s (.b (.l [(1, qi), (5, qs)] (.s (.s .o (.s .o .o)) (.s (.b .o) .o)))) (.s .o .o)))) h (by kernel_rfl)
def W_rbtree_Tree_mend (t : Option Pt) (i : Int) (R : Rs.T [] → WP) : WP :=
 deref t fun q1 =>
 lo cl q1 1 fun (x2 : Sl) =>
 idx x2 i 5 fun q3 =>
 drw <|
 deref (some q3) fun q4 =>
 deref (some q3) fun q5 =>
 lo ci q4 2 fun (x6 : Int) =>
 lo ci q5 3 fun (x7 : Int) =>
 call Tryz.prog N_rbtree_Tree_high [vp t, vi x6] [qi] fun (r8 : Int) =>
 ck q5 3 ci x7 <|
 call Tryz.prog N_rbtree_Tree_high [vp t, vi x7] [qi] fun (r9 : Int) =>
 deref (some q3) fun q10 =>
 so q10 4 [.int .i64 (IntKind.i64.wrap ((if r9 > r8 then r9 else r8) + (1:Int)))] <|
 R ()
theorem call_rbtree_Tree_mend (t : Option Pt) (i : Int) (R : Rs.T [] → WP) (w : World) (h : W_rbtree_Tree_mend t i R w) : CW Tryz.prog N_rbtree_Tree_mend [vp t, vi i] [] R w := cs Tryz.func150 (.s .o (.d (.f 0 [4] (.f 1 [0] (.f 2 [4] (.f 7 [0] (.f 8 [4] (.f 3 [13] (.f 9 [19] (.f 4 [14] (.f 10 [20] (.f 5 [15] (.f 11 [21] (.w 6 [12, 16] (.w 12 [18, 22] (.f 13 [17, 23] (.f 14 [24] (.f 15 [11] (.f 16 [26] (.w 17 [25, 27] .fin)))))))))))))))))))) h (by kernel_rfl)
def W_rbtree_Tree_root (t : Option Pt) (R : Rs.T [qi] → WP) : WP :=
 ite' t.isNone (
 R (-1:Int)) <|
 deref t fun q1 =>
 lo ci q1 2 fun (x2 : Int) =>
 R (IntKind.i64.wrap (x2 - (1:Int)))
theorem call_rbtree_Tree_root (t : Option Pt) (R : Rs.T [qi] → WP) (w : World) (h : W_rbtree_Tree_root t R w) : CW Tryz.prog N_rbtree_Tree_root [vp t] [qi] R w := cs Tryz.func107 (.s .o (.s (.s .o (.s (.s .o .o) .o)) (.s .o .o))) h (by kernel_rfl)
def W_rbtree_Tree_turnLeft (t : Option Pt) (i : Int) (R : Rs.T [qi] → WP) : WP :=
 deref t fun q1 =>
 lo cl q1 1 fun (x2 : Sl) =>
 idx x2 i 5 fun q3 =>
 lo ci q3 3 fun (x4 : Int) =>
 drw <|
 deref t fun q5 =>
 deref t fun q6 =>
 deref t fun q7 =>
 lo cl q5 1 fun (x8 : Sl) =>
 lo cl q6 1 fun (x9 : Sl) =>
 lo cl q7 1 fun (x10 : Sl) =>
 idx x10 x4 5 fun q11 =>
 lo ci q11 2 fun (x12 : Int) =>
 idx x8 i 5 fun q13 =>
 so q13 3 [.int .i64 x12] <|
 idx x9 x4 5 fun q14 =>
 so q14 2 [.int .i64 i] <|
 call Tryz.prog N_rbtree_Tree_mend [vp t, vi i] [] fun (r15 : Unit) =>
 call Tryz.prog N_rbtree_Tree_mend [vp t, vi x4] [] fun (r16 : Unit) =>
 R x4
theorem call_rbtree_Tree_turnLeft (t : Option Pt) (i : Int) (R : Rs.T [qi] → WP) (w : World) (h : W_rbtree_Tree_turnLeft t i R w) : CW Tryz.prog N_rbtree_Tree_turnLeft [vp t, vi i] [qi] R w := cs Tryz.func152 (.s .o (.s .o (.s (.d (.f 0 [0] (.f 4 [1] (.f 5 [0] (.f 9 [5] (.f 10 [0] (.f 14 [5] (.f 18 [1] (.f 1 [14] (.f 6 [19] (.f 11 [24] (.f 2 [15] (.f 7 [20] (.f 12 [25] (.f 3 [16] (.f 8 [21] (.f 13 [26] (.f 15 [27, 28] (.f 16 [29] (.f 17 [30] (.f 19 [17, 18] (.f 20 [33] (.w 21 [31, 34] (.f 22 [22, 23] (.f 23 [35] (.w 24 [32, 36] .fin)))))))))))))))))))))))))) (.s .o (.s .o (.s .o .o)))))) h (by kernel_rfl)
def W_rbtree_Tree_turnRight (t : Option Pt) (i : Int) (R : Rs.T [qi] → WP) : WP :=
 deref t fun q1 =>
 lo cl q1 1 fun (x2 : Sl) =>
 idx x2 i 5 fun q3 =>
 lo ci q3 2 fun (x4 : Int) =>
 drw <|
 deref t fun q5 =>
 deref t fun q6 =>
 deref t fun q7 =>
 lo cl q5 1 fun (x8 : Sl) =>
 lo cl q6 1 fun (x9 : Sl) =>
 lo cl q7 1 fun (x10 : Sl) =>
 idx x10 x4 5 fun q11 =>
 lo ci q11 3 fun (x12 : Int) =>
 idx x8 i 5 fun q13 =>
 so q13 2 [.int .i64 x12] <|
 idx x9 x4 5 fun q14 =>
 so q14 3 [.int .i64 i] <|
 call Tryz.prog N_rbtree_Tree_mend [vp t, vi i] [] fun (r15 : Unit) =>
 call Tryz.prog N_rbtree_Tree_mend [vp t, vi x4] [] fun (r16 : Unit) =>
 R x4
theorem call_rbtree_Tree_turnRight (t : Option Pt) (i : Int) (R : Rs.T [qi] → WP) (w : World) (h : W_rbtree_Tree_turnRight t i R w) : CW Tryz.prog N_rbtree_Tree_turnRight [vp t, vi i] [qi] R w := cs Tryz.func153 (.s .o (.s .o (.s (.d (.f 0 [0] (.f 4 [1] (.f 5 [0] (.f 9 [5] (.f 10 [0] (.f 14 [5] (.f 18 [1] (.f 1 [14] (.f 6 [19] (.f 11 [24] (.f 2 [15] (.f 7 [20] (.f 12 [25] (.f 3 [16] (.f 8 [21] (.f 13 [26] (.f 15 [27, 28] (.f 16 [29] (.f 17 [30] (.f 19 [17, 18] (.f 20 [33] (.w 21 [31, 34] (.f 22 [22, 23] (.f 23 [35] (.w 24 [32, 36] .fin)))))))))))))))))))))))))) (.s .o (.s .o (.s .o .o)))))) h (by kernel_rfl)
def W_rbtree_Tree_way (t : Option Pt) (k : Int × Int) (R : Rs.T [qs] → WP) : WP :=
 new (Ks.mk cr k) fun n1 =>
 call Tryz.prog N_rbtree_Tree_root [vp t] [qi] fun (r2 : Int) =>
 loop [.sl, .int .i64] (⟨none, 0, 0⟩, r2) fun J3 (y4 : Sl × Int) =>
 ite' (y4.2 != (-1:Int)) (
 new [.int .i64 y4.2] fun n5 =>
 app 1 y4.1 ⟨some ⟨n5, 0⟩, 1, 1⟩ fun s6 =>
 drw <|
 ld cr ⟨n1, 0⟩ fun (x7 : Int × Int) =>
 deref t fun q8 =>
 lo cl q8 1 fun (x9 : Sl) =>
 idx x9 y4.2 5 fun q10 =>
 ld cr q10 fun (x11 : Int × Int) =>
 call Tryz.prog N_rbtree_compare [.agg (Ks.mk cr x7), .agg (Ks.mk cr x11)] [qi] fun (r12 : Int) =>
 ite' (decide (r12 < (0:Int))) (
 deref t fun q13 =>
 lo cl q13 1 fun (x14 : Sl) =>
 idx x14 y4.2 5 fun q15 =>
 lo ci q15 2 fun (x16 : Int) =>
 J3 (s6, x16)) <|
 ite' (decide (r12 > (0:Int))) (
 deref t fun q17 =>
 lo cl q17 1 fun (x18 : Sl) =>
 idx x18 y4.2 5 fun q19 =>
 lo ci q19 3 fun (x20 : Int) =>
 J3 (s6, x20)) <|
 R s6) <|
 R y4.1
theorem call_rbtree_Tree_way (t : Option Pt) (k : Int × Int) (R : Rs.T [qs] → WP) (w : World) (h : W_rbtree_Tree_way t k R w) : CW Tryz.prog N_rbtree_Tree_way [vp t, .agg (Ks.mk cr k)] [qs] R w := cs Tryz.func73 (.s .o (.s .o (.s .o (.s .o (.s (.b (.l [(5, qs), (6, qi)] (.s (.s .o (.s .o .o)) (.b (.s .o (.s (.d (.f 0 [3] (.f 1 [0] (.f 5 [6] (.f 2 [17] (.f 3 [18] (.f 4 [19] (.f 6 [20, 21] (.f 7 [22] (.f 8 [23] (.w 9 [16, 24] (.w 10 [25] .fin)))))))))))) (.b (.s .o (.s .o (.s .o (.s .o .o))))))))))) (.s .o .o)))))) h (by kernel_rfl)
def W_rbtree_compare (a : Int × Int) (b : Int × Int) (R : Rs.T [qi] → WP) : WP :=
 new (Ks.mk cr a) fun n1 =>
 new (Ks.mk cr b) fun n2 =>
 drw <|
 ld cu ⟨n1, 0⟩ fun (x3 : Int) =>
 ld cu ⟨n2, 0⟩ fun (x4 : Int) =>
 ld cu ⟨n1, 1⟩ fun (x5 : Int) =>
 ld cu ⟨n2, 1⟩ fun (x6 : Int) =>
 call Tryz.prog N_cmp_Compare_uint64 [vu x3, vu x4] [qi] fun (r7 : Int) =>
 chk ⟨n2, 1⟩ (Ks.mk cu x6) <|
 chk ⟨n1, 1⟩ (Ks.mk cu x5) <|
 call Tryz.prog N_cmp_Compare_uint64 [vu x5, vu x6] [qi] fun (r8 : Int) =>
 new [.int .i64 r7, .int .i64 r8] fun n9 =>
 call Tryz.prog N_cmp_Or_int [.lf (.sl ⟨some ⟨n9, 0⟩, 2, 2⟩)] [qi] fun (r10 : Int) =>
 R r10
theorem call_rbtree_compare (a : Int × Int) (b : Int × Int) (R : Rs.T [qi] → WP) (w : World) (h : W_rbtree_compare a b R w) : CW Tryz.prog N_rbtree_compare [.agg (Ks.mk cr a), .agg (Ks.mk cr b)] [qi] R w := cs Tryz.func116 (.s .o (.s (.d (.f 0 [2] (.f 2 [3] (.f 5 [2] (.f 7 [3] (.f 1 [5] (.f 3 [7] (.f 6 [10] (.f 8 [12] (.w 4 [6, 8] (.w 9 [11, 13] (.w 10 [9, 14] (.w 11 [15] (.w 12 [16] .fin)))))))))))))) .o)) h (by kernel_rfl)
def W_rounds_New  (R : Rs.T [qp] → WP) : WP :=
 new [zu, zu] fun n1 =>
 R (some ⟨n1, 0⟩)
theorem call_rounds_New  (R : Rs.T [qp] → WP) (w : World) (h : W_rounds_New  R w) : CW Tryz.prog N_rounds_New [] [qp] R w := cs Tryz.func81 (.s .o (.s .o .o)) h (by kernel_rfl)
def W_rounds_Rounds_Count (r : Option Pt) (R : Rs.T [qu] → WP) : WP :=
 ite' r.isNone (
 R (0:Int)) <|
 deref r fun q1 =>
 ld cu q1 fun (x2 : Int) =>
 R x2
theorem call_rounds_Rounds_Count (r : Option Pt) (R : Rs.T [qu] → WP) (w : World) (h : W_rounds_Rounds_Count r R w) : CW Tryz.prog N_rounds_Rounds_Count [vp r] [qu] R w := cs Tryz.func122 (.s .o (.s (.s .o (.s (.s .o .o) .o)) (.s .o .o))) h (by kernel_rfl)
def W_rounds_Rounds_Update (r : Option Pt) (s : T_u8b) (R : Rs.T [qb] → WP) : WP :=
 new (Ks.mk K_u8b s) fun n1 =>
 loop cb false fun J2 (y3 : Bool) =>
 join [] (fun J4 =>
 ite' (!r.isNone) (
 ld cu ⟨n1, 5⟩ fun (x6 : Int) =>
 ite' (decide (x6 > (0:Int))) (
 J4 ()) <|
 R y3) <|
 R y3) fun (y5 : Unit) =>
 drw <|
 ld cu ⟨n1, 2⟩ fun (x7 : Int) =>
 deref r fun q8 =>
 lo cu q8 1 fun (x9 : Int) =>
 ite' (decide (x7 < x9)) (
 R y3) <|
 ld cu ⟨n1, 1⟩ fun (x10 : Int) =>
 deref r fun q11 =>
 so q11 1 [.int .u64 x10] <|
 deref r fun q12 =>
 ld cu q12 fun (x13 : Int) =>
 deref r fun q14 =>
 st q14 [.int .u64 (IntKind.u64.wrap (x13 + (1:Int)))] <|
 R true
theorem call_rounds_Rounds_Update (r : Option Pt) (s : T_u8b) (R : Rs.T [qb] → WP) (w : World) (h : W_rounds_Rounds_Update r s R w) : CW Tryz.prog N_rounds_Rounds_Update [vp r, .agg (Ks.mk K_u8b s)] [qb] R w := cs Tryz.func162 (.s .o (.s .o (.s .o (.s (.b (.l [(5, qb)] (.j [] (.s .o (.s .o .o)) (.b (.s (.s (.d (.f 0 [3] (.f 2 [0] (.f 1 [13] (.f 3 [15] (.f 4 [16] (.f 5 [17] (.f 6 [14, 18] .fin)))))))) (.s .o .o)) (.s .o (.s .o .o))))))) (.s .o .o))))) h (by kernel_rfl)
def W_sampler_New  (R : Rs.T [qp] → WP) : WP :=
 new [zu, zu, zu, zu, .bool false, zu, zu, zu, .bool false, zu, zu] fun n1 =>
 R (some ⟨n1, 0⟩)
theorem call_sampler_New  (R : Rs.T [qp] → WP) (w : World) (h : W_sampler_New  R w) : CW Tryz.prog N_sampler_New [] [qp] R w := cs Tryz.func58 (.s .o (.s .o .o)) h (by kernel_rfl)
def W_sampler_Sampler_Acked (d : Option Pt) (o : Int) (a : Int) (a' : T_u4b) (R : Rs.T [] → WP) : WP :=
 new (Ks.mk K_u4b a') fun n1 =>
 ite' d.isNone (
 R ()) <|
 deref d fun q2 =>
 ld cu q2 fun (x3 : Int) =>
 call Tryz.prog N_sat_Add [vu x3, vu a] [qu] fun (r4 : Int) =>
 deref d fun q5 =>
 st q5 [.int .u64 r4] <|
 deref d fun q6 =>
 so q6 1 [.int .u64 o] <|
 join [] (fun J7 =>
 drw <|
 deref d fun q9 =>
 deref d fun q10 =>
 ld cu q9 fun (x11 : Int) =>
 lo cu q10 3 fun (x12 : Int) =>
 ite' (decide (x11 > x12)) (
 deref d fun q13 =>
 so q13 3 [zu] <|
 J7 ()) <|
 J7 ()) fun (y8 : Unit) =>
 deref d fun q14 =>
 lo cu q14 5 fun (x15 : Int) =>
 call Tryz.prog N_sat_Add [vu x15, vu a] [qu] fun (r16 : Int) =>
 deref d fun q17 =>
 so q17 5 [.int .u64 r16] <|
 join [] (fun J18 =>
 join cb (fun J20 =>
 drw <|
 deref d fun q22 =>
 lo cb q22 4 fun (x23 : Bool) =>
 ite' (!x23) (
 J20 true) <|
 ld cu ⟨n1, 1⟩ fun (x24 : Int) =>
 deref d fun q25 =>
 lo cu q25 6 fun (x26 : Int) =>
 J20 (decide (x24 ≥ x26))) fun (y21 : Bool) =>
 ite' y21 (
 drw <|
 ld cu ⟨n1, 1⟩ fun (x27 : Int) =>
 ld cu ⟨n1, 2⟩ fun (x28 : Int) =>
 ld cb ⟨n1, 4⟩ fun (x29 : Bool) =>
 deref d fun q30 =>
 so q30 6 [.int .u64 x27] <|
 chk ⟨n1, 4⟩ (Ks.mk cb x29) <|
 chk ⟨n1, 2⟩ (Ks.mk cu x28) <|
 deref d fun q31 =>
 so q31 7 [.int .u64 x28] <|
 chk ⟨n1, 4⟩ (Ks.mk cb x29) <|
 deref d fun q32 =>
 so q32 8 [.bool x29] <|
 drw <|
 ld cu ⟨n1, 0⟩ fun (x33 : Int) =>
 ld cu ⟨n1, 3⟩ fun (x34 : Int) =>
 ld cu ⟨n1, 0⟩ fun (x35 : Int) =>
 call Tryz.prog N_sat_Sub [vu x33, vu x34] [qu] fun (r36 : Int) =>
 chk ⟨n1, 0⟩ (Ks.mk cu x35) <|
 call Tryz.prog N_sat_Sub [vu o, vu x35] [qu] fun (r37 : Int) =>
 deref d fun q38 =>
 so q38 9 [.int .u64 r36] <|
 deref d fun q39 =>
 so q39 10 [.int .u64 r37] <|
 ld cu ⟨n1, 0⟩ fun (x40 : Int) =>
 deref d fun q41 =>
 so q41 2 [.int .u64 x40] <|
 J18 ()) <|
 J18 ()) fun (y19 : Unit) =>
 deref d fun q42 =>
 so q42 4 [.bool true] <|
 R ()
theorem call_sampler_Sampler_Acked (d : Option Pt) (o : Int) (a : Int) (a' : T_u4b) (R : Rs.T [] → WP) (w : World) (h : W_sampler_Sampler_Acked d o a a' R w) : CW Tryz.prog N_sampler_Sampler_Acked [vp d, vu o, vu a, .agg (Ks.mk K_u4b a')] [] R w := cs Tryz.func93 (.s .o (.s (.s .o (.s .o .o)) (.s .o (.j [] (.s (.d (.f 0 [0] (.f 4 [0] (.f 1 [23] (.f 5 [27] (.f 2 [24] (.f 6 [28] (.f 3 [25] (.f 7 [29] (.f 8 [26, 30] .fin)))))))))) (.s .o .o)) (.s .o (.j [] (.j [(61, qb)] (.d (.f 0 [0] (.f 1 [46] (.f 2 [47] (.f 3 [48] (.f 4 [49] (.f 5 [50] (.f 6 [51] (.f 7 [7, 52] (.f 9 [0, 52] (.f 8 [52, 53] (.f 10 [52, 55] (.f 11 [52, 56] (.f 12 [52, 57] (.f 13 [52, 58] (.f 14 [52, 54, 59] (.f 15 [52, 60] .fin))))))))))))))))) (.s (.s (.d (.f 0 [0] (.f 1 [0] (.f 2 [0] (.f 3 [7] (.f 5 [7] (.f 7 [7] (.f 4 [65] (.f 6 [67] (.f 8 [69] (.f 9 [62] (.f 10 [71] (.f 11 [72] (.w 12 [66, 73] (.f 13 [63] (.f 14 [74] (.f 15 [75] (.w 16 [68, 76] (.f 17 [64] (.f 18 [77] (.f 19 [78] (.w 20 [70, 79] .fin)))))))))))))))))))))) (.s (.d (.f 0 [0] (.f 1 [0] (.f 2 [7] (.f 4 [7] (.f 7 [1] (.f 8 [7] (.f 3 [82] (.f 5 [84] (.f 9 [88] (.w 6 [83, 85] (.w 10 [87, 89] (.f 11 [80] (.f 12 [91] (.f 13 [92] (.w 14 [86, 93] (.f 15 [81] (.f 16 [94] (.f 17 [95] (.w 18 [90, 96] .fin)))))))))))))))))))) .o)) .o)) .o)))))) h (by kernel_rfl)
def W_sampler_Sampler_Limit (s : Option Pt) (flight : Int) (R : Rs.T [] → WP) : WP :=
 ite' (!s.isNone) (
 deref s fun q1 =>
 ld cu q1 fun (x2 : Int) =>
 call Tryz.prog N_sat_Add [vu x2, vu flight] [qu] fun (r3 : Int) =>
 deref s fun q4 =>
 so q4 3 [.int .u64 (if r3 > (1:Int) then r3 else (1:Int))] <|
 R ()) <|
 R ()
theorem call_sampler_Sampler_Limit (s : Option Pt) (flight : Int) (R : Rs.T [] → WP) (w : World) (h : W_sampler_Sampler_Limit s flight R w) : CW Tryz.prog N_sampler_Sampler_Limit [vp s, vu flight] [] R w := cs Tryz.func137 (.s .o (.s .o .o)) h (by kernel_rfl)
def W_sampler_Sampler_Sent (s : Option Pt) (now : Int) (flight : Int) (R : Rs.T [.agg K_u4b] → WP) : WP :=
 new [zu, zu, zu, zu, .bool false] fun n1 =>
 ite' s.isNone (
 st ⟨n1, 0⟩ [zu, zu, zu, zu, .bool false] <|
 ld K_u4b ⟨n1, 0⟩ fun (x2 : T_u4b) =>
 R x2) <|
 join [] (fun J3 =>
 ite' (flight == (0:Int)) (
 deref s fun q5 =>
 so q5 2 [.int .u64 now] <|
 deref s fun q6 =>
 so q6 1 [.int .u64 now] <|
 J3 ()) <|
 J3 ()) fun (y4 : Unit) =>
 drw <|
 deref s fun q7 =>
 deref s fun q8 =>
 deref s fun q9 =>
 deref s fun q10 =>
 ld cu q7 fun (x11 : Int) =>
 lo cu q8 1 fun (x12 : Int) =>
 lo cu q9 2 fun (x13 : Int) =>
 lo cu q10 3 fun (x14 : Int) =>
 st ⟨n1, 0⟩ [.int .u64 now, .int .u64 x11, .int .u64 x12, .int .u64 x13, .bool (x14 != (0:Int))] <|
 ld K_u4b ⟨n1, 0⟩ fun (x15 : T_u4b) =>
 R x15
theorem call_sampler_Sampler_Sent (s : Option Pt) (now : Int) (flight : Int) (R : Rs.T [.agg K_u4b] → WP) (w : World) (h : W_sampler_Sampler_Sent s now flight R w) : CW Tryz.prog N_sampler_Sampler_Sent [vp s, vu now, vu flight] [.agg K_u4b] R w := cs Tryz.func97 (.s .o (.s (.s .o (.s (.s .o .o) .o)) (.j [] (.s .o (.s .o .o)) (.s (.d (.f 0 [1] (.f 1 [0] (.f 5 [0] (.f 9 [0] (.f 13 [0] (.f 2 [21] (.f 6 [25] (.f 10 [29] (.f 14 [33] (.f 3 [22] (.f 7 [26] (.f 11 [30] (.f 15 [34] (.f 4 [23] (.f 8 [27] (.f 12 [31] (.f 16 [35] (.f 17 [36] (.f 18 [20, 24, 28, 32, 37] (.w 19 [6, 38] .fin))))))))))))))))))))) .o)))) h (by kernel_rfl)
def W_sampler_Sampler_Take (s : Option Pt) (now : Int) (lost : Int) (flight : Int) (R : Rs.T [.agg K_u8b] → WP) : WP :=
 new [zu, zu, zu, zu, zu, zu, zu, zu, .bool false] fun n1 =>
 ite' s.isNone (
 st ⟨n1, 0⟩ [zu, zu, zu, zu, zu, zu, zu, zu, .bool false] <|
 ld K_u8b ⟨n1, 0⟩ fun (x2 : T_u8b) =>
 R x2) <|
 deref s fun q3 =>
 ld cu q3 fun (x4 : Int) =>
 new [zu, zu, zu, zu, zu, zu, zu, zu, .bool false] fun n5 =>
 st ⟨n5, 0⟩ [.int .u64 now, .int .u64 x4, zu, zu, zu, zu, .int .u64 lost, .int .u64 flight, .bool false] <|
 join [] (fun J6 =>
 deref s fun q8 =>
 lo K_bu3bu2 q8 4 fun (x9 : T_bu3bu2) =>
 new [.bool false, zu, zu, zu, .bool false, zu, zu] fun n10 =>
 st ⟨n10, 0⟩ (Ks.mk K_bu3bu2 x9) <|
 ld cb ⟨n10, 0⟩ fun (x11 : Bool) =>
 ite' x11 (
 drw <|
 ld cu ⟨n10, 1⟩ fun (x12 : Int) =>
 ld cu ⟨n10, 2⟩ fun (x13 : Int) =>
 ld cb ⟨n10, 4⟩ fun (x14 : Bool) =>
 ld cu ⟨n10, 6⟩ fun (x15 : Int) =>
 st ⟨n5, 5⟩ [.int .u64 x12] <|
 chk ⟨n10, 6⟩ (Ks.mk cu x15) <|
 chk ⟨n10, 4⟩ (Ks.mk cb x14) <|
 chk ⟨n10, 2⟩ (Ks.mk cu x13) <|
 st ⟨n5, 2⟩ [.int .u64 x13] <|
 chk ⟨n10, 6⟩ (Ks.mk cu x15) <|
 chk ⟨n10, 4⟩ (Ks.mk cb x14) <|
 st ⟨n5, 8⟩ [.bool x14] <|
 chk ⟨n10, 6⟩ (Ks.mk cu x15) <|
 st ⟨n5, 4⟩ [.int .u64 x15] <|
 drw <|
 ld cu ⟨n10, 5⟩ fun (x16 : Int) =>
 ld cu ⟨n10, 3⟩ fun (x17 : Int) =>
 call Tryz.prog N_sat_Sub [vu now, vu x17] [qu] fun (r18 : Int) =>
 chk ⟨n10, 5⟩ (Ks.mk cu x16) <|
 new [.int .u64 x16, .int .u64 r18] fun n19 =>
 call Tryz.prog N_sampler_longest [.lf (.sl ⟨some ⟨n19, 0⟩, 2, 2⟩)] [qu] fun (r20 : Int) =>
 st ⟨n5, 3⟩ [.int .u64 r20] <|
 J6 ()) <|
 J6 ()) fun (y7 : Unit) =>
 deref s fun q21 =>
 so q21 4 [.bool false, zu, zu, zu, .bool false, zu, zu] <|
 ld K_u8b ⟨n5, 0⟩ fun (x22 : T_u8b) =>
 st ⟨n1, 0⟩ (Ks.mk K_u8b x22) <|
 ld K_u8b ⟨n1, 0⟩ fun (x23 : T_u8b) =>
 R x23
theorem call_sampler_Sampler_Take (s : Option Pt) (now : Int) (lost : Int) (flight : Int) (R : Rs.T [.agg K_u8b] → WP) (w : World) (h : W_sampler_Sampler_Take s now lost flight R w) : CW Tryz.prog N_sampler_Sampler_Take [vp s, vu now, vu lost, vu flight] [.agg K_u8b] R w := cs Tryz.func133 (.s .o (.s (.s .o (.s (.s .o .o) .o)) (.s .o (.j [] (.s .o (.s .o (.s (.s (.d (.f 0 [10] (.f 2 [10] (.f 4 [10] (.f 6 [10] (.f 1 [28] (.f 3 [30] (.f 5 [32] (.f 7 [34] (.f 8 [9] (.w 9 [29, 36] (.f 10 [9] (.w 11 [31, 37] (.f 12 [9] (.w 13 [33, 38] (.f 14 [9] (.w 15 [35, 39] .fin))))))))))))))))) (.d (.f 0 [10] (.f 2 [1] (.f 3 [10] (.f 1 [40] (.f 4 [43] (.w 5 [42, 44] (.w 6 [41, 45] (.w 7 [46] (.f 8 [9] (.w 9 [47, 48] .fin)))))))))))) .o))) (.s .o (.s .o .o)))))) h (by kernel_rfl)
def W_sampler_longest (l : Sl) (R : Rs.T [qu] → WP) : WP :=
 loop [.int .u64, .int .i64] ((0:Int), (0:Int)) fun J1 (y2 : Int × Int) =>
 ite' (decide (y2.2 < ((l.len : Nat) : Int))) (
 idx l y2.2 1 fun q3 =>
 ld cu q3 fun (x4 : Int) =>
 ite' (decide (x4 ≤ y2.1)) (
 J1 (y2.1, (IntKind.i64.wrap (y2.2 + (1:Int))))) <|
 J1 (x4, (IntKind.i64.wrap (y2.2 + (1:Int))))) <|
 R y2.1
theorem call_sampler_longest (l : Sl) (R : Rs.T [qu] → WP) (w : World) (h : W_sampler_longest l R w) : CW Tryz.prog N_sampler_longest [.lf (.sl l)] [qu] R w := cs Tryz.func173 (.s .o (.s .o (.s .o (.s (.s .o (.b (.l [(3, qu), (8, qi)] (.s .o (.s (.s .o .o) (.s (.b (.s .o (.s (.s .o (.s .o .o)) .o))) .o)))))) (.s .o .o))))) h (by kernel_rfl)
def W_sat_Add (a : Int) (b : Int) (R : Rs.T [qu] → WP) : WP :=
 call Tryz.prog N_math_bits_Add64 [vu a, vu b, .lf (zu)] [qu, qu] fun (r1 : Int × Int) =>
 ite' (decide (r1.2 > (0:Int))) (
 R (18446744073709551615:Int)) <|
 R r1.1
theorem call_sat_Add (a : Int) (b : Int) (R : Rs.T [qu] → WP) (w : World) (h : W_sat_Add a b R w) : CW Tryz.prog N_sat_Add [vu a, vu b] [qu] R w := cs Tryz.func24 (.s .o (.s .o (.s (.s .o (.s (.s .o .o) .o)) (.s .o .o)))) h (by kernel_rfl)
def W_sat_Mul (a : Int) (b : Int) (R : Rs.T [qu] → WP) : WP :=
 call Tryz.prog N_math_bits_Mul64 [vu a, vu b] [qu, qu] fun (r1 : Int × Int) =>
 ite' (decide (r1.1 > (0:Int))) (
 R (18446744073709551615:Int)) <|
 R r1.2
theorem call_sat_Mul (a : Int) (b : Int) (R : Rs.T [qu] → WP) (w : World) (h : W_sat_Mul a b R w) : CW Tryz.prog N_sat_Mul [vu a, vu b] [qu] R w := cs Tryz.func200 (.s .o (.s .o (.s (.s .o (.s (.s .o .o) .o)) (.s .o .o)))) h (by kernel_rfl)
def W_sat_Sub (a : Int) (b : Int) (R : Rs.T [qu] → WP) : WP :=
 R (IntKind.u64.wrap (a - (if b < a then b else a)))
theorem call_sat_Sub (a : Int) (b : Int) (R : Rs.T [qu] → WP) (w : World) (h : W_sat_Sub a b R w) : CW Tryz.prog N_sat_Sub [vu a, vu b] [qu] R w := cs Tryz.func131 (.s .o (.s .o .o)) h (by kernel_rfl)
def W_script_Run (c : T_i4u2bi2) (l : Sl) (R : Rs.T [qs, qs] → WP) : WP :=
 new (Ks.mk K_i4u2bi2 c) fun n1 =>
 ld K_i4u2bi2 ⟨n1, 0⟩ fun (x2 : T_i4u2bi2) =>
 call Tryz.prog N_egress_New [.agg (Ks.mk K_i4u2bi2 x2)] [qp, qi] fun (r3 : Option Pt × Int) =>
 ite' (r3.2 != (0:Int)) (
 new [.int .i64 r3.2] fun n4 =>
 R (⟨none, 0, 0⟩, ⟨some ⟨n4, 0⟩, 1, 1⟩)) <|
 loop K_s2i (⟨none, 0, 0⟩, ⟨none, 0, 0⟩, (0:Int)) fun J5 (y6 : T_s2i) =>
 ite' (decide (y6.2.2 < ((l.len : Nat) : Int))) (
 idx l y6.2.2 15 fun q7 =>
 ld K_i3u2si4u2bi2 q7 fun (x8 : T_i3u2si4u2bi2) =>
 new [zi, zi, zi, zu, zu, .sl ⟨none, 0, 0⟩, zi, zi, zi, zi, zu, zu, .bool false, zi, zi] fun n9 =>
 st ⟨n9, 0⟩ (Ks.mk K_i3u2si4u2bi2 x8) <|
 ld K_i3u2si4u2bi2 ⟨n9, 0⟩ fun (x10 : T_i3u2si4u2bi2) =>
 call Tryz.prog N_egress_Machine_Do [vp r3.1, .agg (Ks.mk K_i3u2si4u2bi2 x10)] [.agg K_s3u, qi] fun (r11 : T_s3u × Int) =>
 new [.sl ⟨none, 0, 0⟩, .sl ⟨none, 0, 0⟩, .sl ⟨none, 0, 0⟩, zu] fun n12 =>
 st ⟨n12, 0⟩ (Ks.mk K_s3u r11.1) <|
 ld K_s3u ⟨n12, 0⟩ fun (x13 : T_s3u) =>
 new [.sl x13.1, .sl x13.2.1, .sl x13.2.2.1, .int .u64 x13.2.2.2] fun n14 =>
 app 4 y6.1 ⟨some ⟨n14, 0⟩, 1, 1⟩ fun s15 =>
 new [.int .i64 r11.2] fun n16 =>
 app 1 y6.2.1 ⟨some ⟨n16, 0⟩, 1, 1⟩ fun s17 =>
 J5 (s15, s17, (IntKind.i64.wrap (y6.2.2 + (1:Int))))) <|
 R (y6.1, y6.2.1)
theorem call_script_Run (c : T_i4u2bi2) (l : Sl) (R : Rs.T [qs, qs] → WP) (w : World) (h : W_script_Run c l R w) : CW Tryz.prog N_script_Run [.agg (Ks.mk K_i4u2bi2 c), .lf (.sl l)] [qs, qs] R w := cs Tryz.func6 (.s .o (.s .o (.s (.s .o (.s (.s .o .o) .o)) (.s .o (.s .o (.s (.s .o (.b (.l [(8, qs), (9, qs), (25, qi)] (.s .o (.s (.s .o .o) (.s (.b (.s .o (.s .o .o))) .o)))))) (.s .o .o))))))) h (by kernel_rfl)
def W_slices_Clone_sapiSegapiSeg (s : Sl) (R : Rs.T [qs] → WP) : WP :=
 ite' (Sl.isNil s) (
 R ⟨none, 0, 0⟩) <|
 new [] fun n1 =>
 app 5 ⟨some ⟨n1, 0⟩, 0, 0⟩ s fun s2 =>
 R s2
theorem call_slices_Clone_sapiSegapiSeg (s : Sl) (R : Rs.T [qs] → WP) (w : World) (h : W_slices_Clone_sapiSegapiSeg s R w) : CW Tryz.prog N_slices_Clone_sapiSegapiSeg [.lf (.sl s)] [qs] R w := cs Tryz.func89 (.s .o (.s (.s .o (.s (.s .o .o) .o)) (.s .o .o))) h (by kernel_rfl)
def W_slices_Concat_sintint (slices : Sl) (R : Rs.T [qs] → WP) : WP :=
 loop [.int .i64, .int .i64] ((0:Int), (0:Int)) fun J1 (y2 : Int × Int) =>
 ite' (decide (y2.2 < ((slices.len : Nat) : Int))) (
 idx slices y2.2 1 fun q3 =>
 ld cl q3 fun (x4 : Sl) =>
 ite' (decide ((IntKind.i64.wrap (y2.1 + ((x4.len : Nat) : Int))) < (0:Int))) (
 wno) <|
 J1 ((IntKind.i64.wrap (y2.1 + ((x4.len : Nat) : Int))), (IntKind.i64.wrap (y2.2 + (1:Int))))) <|
 call Tryz.prog N_slices_Grow_sintint [.lf (.sl ⟨none, 0, 0⟩), vi y2.1] [qs] fun (r5 : Sl) =>
 loop [.sl, .int .i64] (r5, (0:Int)) fun J6 (y7 : Sl × Int) =>
 ite' (decide (y7.2 < ((slices.len : Nat) : Int))) (
 idx slices y7.2 1 fun q8 =>
 ld cl q8 fun (x9 : Sl) =>
 app 1 y7.1 x9 fun s10 =>
 J6 (s10, (IntKind.i64.wrap (y7.2 + (1:Int))))) <|
 R y7.1
theorem call_slices_Concat_sintint (slices : Sl) (R : Rs.T [qs] → WP) (w : World) (h : W_slices_Concat_sintint slices R w) : CW Tryz.prog N_slices_Concat_sintint [.lf (.sl slices)] [qs] R w := cs Tryz.func113 (.s .o (.s .o (.s (.s .o (.b (.l [(3, qi), (11, qi)] (.s .o (.s (.s .o .o) (.s (.b (.s .o (.s .o (.s .o (.s .o .o))))) .o)))))) (.s .o (.s (.s .o (.b (.l [(6, qs), (27, qi)] (.s .o (.s (.s .o .o) (.s (.b (.s .o .o)) .o)))))) (.s .o .o)))))) h (by kernel_rfl)
def W_slices_ContainsFunc_sapiRangeapiRange (s : Sl) (f : Fv) (R : Rs.T [qb] → WP) : WP :=
 call Tryz.prog N_slices_IndexFunc_sapiRangeapiRange [.lf (.sl s), .lf (.fn f)] [qi] fun (r1 : Int) =>
 R (decide (r1 ≥ (0:Int)))
theorem call_slices_ContainsFunc_sapiRangeapiRange (s : Sl) (f : Fv) (R : Rs.T [qb] → WP) (w : World) (h : W_slices_ContainsFunc_sapiRangeapiRange s f R w) : CW Tryz.prog N_slices_ContainsFunc_sapiRangeapiRange [.lf (.sl s), .lf (.fn f)] [qb] R w := cs Tryz.func159 (.s .o (.s .o .o)) h (by kernel_rfl)
def W_slices_DeleteFunc_sintint (s : Sl) (del : Fv) (R : Rs.T [qs] → WP) : WP :=
 call Tryz.prog N_slices_IndexFunc_sintint [.lf (.sl s), .lf (.fn del)] [qi] fun (r1 : Int) =>
 ite' (r1 == (-1:Int)) (
 R s) <|
 loop [.int .i64, .int .i64] (r1, (IntKind.i64.wrap (r1 + (1:Int)))) fun J2 (y3 : Int × Int) =>
 ite' (decide (y3.2 < ((s.len : Nat) : Int))) (
 idx s y3.2 1 fun q4 =>
 ld ci q4 fun (x5 : Int) =>
 callv Tryz.prog del [vi x5] [qb] fun (r6 : Bool) =>
 ite' (!r6) (
 idx s y3.1 1 fun q7 =>
 st q7 [.int .i64 x5] <|
 J2 ((IntKind.i64.wrap (y3.1 + (1:Int))), (IntKind.i64.wrap (y3.2 + (1:Int))))) <|
 J2 (y3.1, (IntKind.i64.wrap (y3.2 + (1:Int))))) <|
 slc s (some y3.1) none none 1 fun s8 =>
 clr [zi] s8 <|
 slc s none (some y3.1) none 1 fun s9 =>
 R s9
theorem call_slices_DeleteFunc_sintint (s : Sl) (del : Fv) (R : Rs.T [qs] → WP) (w : World) (h : W_slices_DeleteFunc_sintint s del R w) : CW Tryz.prog N_slices_DeleteFunc_sintint [.lf (.sl s), .lf (.fn del)] [qs] R w := cs Tryz.func115 (.s .o (.s .o (.s (.s .o (.s (.s .o .o) .o)) (.s (.s .o (.b (.l [(5, qi), (6, qi)] (.s (.s .o (.s .o .o)) (.s (.b (.s .o (.s .o (.s (.s .o .o) .o)))) .o))))) (.s .o (.s .o .o)))))) h (by kernel_rfl)
def W_slices_Grow_sintint (s : Sl) (n : Int) (R : Rs.T [qs] → WP) : WP :=
 join [] (fun J1 =>
 ite' (decide (n < (0:Int))) (
 wno) <|
 J1 ()) fun (y2 : Unit) =>
 ite' (decide ((IntKind.i64.wrap (n - (IntKind.i64.wrap (((s.cp : Nat) : Int) - ((s.len : Nat) : Int))))) > (0:Int))) (
 slc s none (some ((s.cp : Nat) : Int)) none 1 fun s3 =>
 appz [zi] 1 s3 (IntKind.i64.wrap (n - (IntKind.i64.wrap (((s.cp : Nat) : Int) - ((s.len : Nat) : Int))))) fun s4 =>
 slc s4 none (some ((s.len : Nat) : Int)) none 1 fun s5 =>
 R s5) <|
 R s
theorem call_slices_Grow_sintint (s : Sl) (n : Int) (R : Rs.T [qs] → WP) (w : World) (h : W_slices_Grow_sintint s n R w) : CW Tryz.prog N_slices_Grow_sintint [.lf (.sl s), vi n] [qs] R w := cs Tryz.func146 (.s .o (.j [] (.s .o (.s .o .o)) (.s (.s .o (.s .o (.s .o .o))) (.s .o .o)))) h (by kernel_rfl)
def W_slices_IndexFunc_sapiRangeapiRange (s : Sl) (f : Fv) (R : Rs.T [qi] → WP) : WP :=
 loop ci (0:Int) fun J1 (y2 : Int) =>
 ite' (decide (y2 < ((s.len : Nat) : Int))) (
 idx s y2 2 fun q3 =>
 ld cr q3 fun (x4 : Int × Int) =>
 callv Tryz.prog f [.agg (Ks.mk cr x4)] [qb] fun (r5 : Bool) =>
 ite' r5 (
 R y2) <|
 J1 (IntKind.i64.wrap (y2 + (1:Int)))) <|
 R (-1:Int)
theorem call_slices_IndexFunc_sapiRangeapiRange (s : Sl) (f : Fv) (R : Rs.T [qi] → WP) (w : World) (h : W_slices_IndexFunc_sapiRangeapiRange s f R w) : CW Tryz.prog N_slices_IndexFunc_sapiRangeapiRange [.lf (.sl s), .lf (.fn f)] [qi] R w := cs Tryz.func178 (.s .o (.s (.s .o (.b (.l [(8, qi)] (.s .o (.s (.s .o .o) (.s (.b (.s .o (.s .o (.s (.s .o .o) .o)))) .o)))))) (.s .o .o))) h (by kernel_rfl)
def W_slices_IndexFunc_sintint (s : Sl) (f : Fv) (R : Rs.T [qi] → WP) : WP :=
 loop ci (0:Int) fun J1 (y2 : Int) =>
 ite' (decide (y2 < ((s.len : Nat) : Int))) (
 idx s y2 1 fun q3 =>
 ld ci q3 fun (x4 : Int) =>
 callv Tryz.prog f [vi x4] [qb] fun (r5 : Bool) =>
 ite' r5 (
 R y2) <|
 J1 (IntKind.i64.wrap (y2 + (1:Int)))) <|
 R (-1:Int)
theorem call_slices_IndexFunc_sintint (s : Sl) (f : Fv) (R : Rs.T [qi] → WP) (w : World) (h : W_slices_IndexFunc_sintint s f R w) : CW Tryz.prog N_slices_IndexFunc_sintint [.lf (.sl s), .lf (.fn f)] [qi] R w := cs Tryz.func147 (.s .o (.s (.s .o (.b (.l [(8, qi)] (.s .o (.s (.s .o .o) (.s (.b (.s .o (.s .o (.s (.s .o .o) .o)))) .o)))))) (.s .o .o))) h (by kernel_rfl)
def W_sock_New (id : Int) (c : T_i4u2bi2) (R : Rs.T [qp] → WP) : WP :=
 new (Ks.mk K_i4u2bi2 c) fun n1 =>
 ld ci ⟨n1, 8⟩ fun (x2 : Int) =>
 drw <|
 ld ci ⟨n1, 7⟩ fun (x3 : Int) =>
 call Tryz.prog N_buffer_New [.lf (.int .i64 (1073741824:Int))] [qp] fun (r4 : Option Pt) =>
 chk ⟨n1, 7⟩ (Ks.mk ci x3) <|
 call Tryz.prog N_board_New [] [qp] fun (r5 : Option Pt) =>
 chk ⟨n1, 7⟩ (Ks.mk ci x3) <|
 call Tryz.prog N_sampler_New [] [qp] fun (r6 : Option Pt) =>
 chk ⟨n1, 7⟩ (Ks.mk ci x3) <|
 call Tryz.prog N_bbr_New [.lf (.int .u64 (IntKind.u64.wrap (if (9000:Int) < (if (100:Int) > x2 then (100:Int) else x2) then (9000:Int) else (if (100:Int) > x2 then (100:Int) else x2))))] [qp] fun (r7 : Option Pt) =>
 chk ⟨n1, 7⟩ (Ks.mk ci x3) <|
 new [.int .i64 id, .int .i64 (if (9000:Int) < (if (100:Int) > x2 then (100:Int) else x2) then (9000:Int) else (if (100:Int) > x2 then (100:Int) else x2)), .int .i64 x3, .ptr r4, .ptr r5, .ptr r6, .ptr r7, zu, zu] fun n8 =>
 R (some ⟨n8, 0⟩)
theorem call_sock_New (id : Int) (c : T_i4u2bi2) (R : Rs.T [qp] → WP) (w : World) (h : W_sock_New id c R w) : CW Tryz.prog N_sock_New [vi id, .agg (Ks.mk K_i4u2bi2 c)] [qp] R w := cs Tryz.func36 (.s .o (.s .o (.s (.d (.f 0 [0] (.f 1 [5] (.f 2 [3] (.f 7 [5] (.f 3 [12] (.f 8 [17] (.w 4 [] (.w 5 [] (.w 6 [] (.w 9 [18] (.f 10 [10, 11, 13, 14, 15, 16, 19] (.w 11 [20] (.w 12 [21] .fin)))))))))))))) .o))) h (by kernel_rfl)
def W_sock_Sock_Ack (s : Option Pt) (now : Int) (upto : Int) (sacks : Sl) (R : Rs.T [qi] → WP) : WP :=
 ite' s.isNone (
 R (2:Int)) <|
 deref s fun q1 =>
 lo cp q1 4 fun (x2 : Option Pt) =>
 call Tryz.prog N_board_Board_Ack [vp x2, vu upto, .lf (.sl sacks)] [qs, qu, qi] fun (r3 : Sl × Int × Int) =>
 ite' (r3.2.2 != (0:Int)) (
 R r3.2.2) <|
 deref s fun q4 =>
 lo cp q4 3 fun (x5 : Option Pt) =>
 call Tryz.prog N_buffer_Buffer_Acked [vp x5, vu upto] [qi] fun (r6 : Int) =>
 loop cl r3.1 fun J7 (y8 : Sl) =>
 ite' (((y8.len : Nat) : Int) == (0:Int)) (
 call Tryz.prog N_sock_Sock_learn [vp s, vu now, vu r3.2.1] [] fun (r9 : Unit) =>
 R (0:Int)) <|
 idx y8 (0:Int) 9 fun q10 =>
 ld K_u6b3 q10 fun (x11 : T_u6b3) =>
 new [zu, zu, zu, zu, zu, zu, .bool false, .bool false, .bool false] fun n12 =>
 st ⟨n12, 0⟩ (Ks.mk K_u6b3 x11) <|
 slc y8 (some (1:Int)) none none 9 fun s13 =>
 drw <|
 deref s fun q14 =>
 ld cu ⟨n12, 1⟩ fun (x15 : Int) =>
 ld cu ⟨n12, 0⟩ fun (x16 : Int) =>
 ld K_u4b ⟨n12, 2⟩ fun (x17 : T_u4b) =>
 lo cp q14 5 fun (x18 : Option Pt) =>
 call Tryz.prog N_sampler_Sampler_Acked [vp x18, vu now, .lf (.int .u64 (IntKind.u64.wrap (x15 - x16))), .agg (Ks.mk K_u4b x17)] [] fun (r19 : Unit) =>
 J7 s13
theorem call_sock_Sock_Ack (s : Option Pt) (now : Int) (upto : Int) (sacks : Sl) (R : Rs.T [qi] → WP) (w : World) (h : W_sock_Sock_Ack s now upto sacks R w) : CW Tryz.prog N_sock_Sock_Ack [vp s, vu now, vu upto, .lf (.sl sacks)] [qi] R w := cs Tryz.func63 (.s .o (.s (.s .o (.s (.s .o .o) .o)) (.s .o (.s (.s .o (.s (.s .o .o) .o)) (.s .o (.s .o (.s (.b (.l [(9, qs)] (.b (.s (.s .o (.s .o .o)) (.s .o (.s .o (.d (.f 0 [0] (.f 4 [1] (.f 5 [12] (.f 7 [12] (.f 10 [12] (.f 1 [43] (.f 6 [48] (.f 8 [50] (.f 11 [53] (.f 2 [44] (.f 9 [49, 51] (.f 3 [45] (.w 12 [46, 47, 52, 54] .fin)))))))))))))))))))) (.s .o (.s .o .o))))))))) h (by kernel_rfl)
def W_sock_Sock_Done (s : Option Pt) (n : Int) (R : Rs.T [qi] → WP) : WP :=
 join [] (fun J1 =>
 ite' s.isNone (
 R (2:Int)) <|
 ite' (decide (n < (1:Int))) (
 R (1:Int)) <|
 deref s fun q3 =>
 lo cu q3 7 fun (x4 : Int) =>
 ite' (decide ((IntKind.u64.wrap n) > x4)) (
 R (1:Int)) <|
 J1 ()) fun (y2 : Unit) =>
 deref s fun q5 =>
 lo cu q5 7 fun (x6 : Int) =>
 deref s fun q7 =>
 so q7 7 [.int .u64 (IntKind.u64.wrap (x6 - (IntKind.u64.wrap n)))] <|
 R (0:Int)
theorem call_sock_Sock_Done (s : Option Pt) (n : Int) (R : Rs.T [qi] → WP) (w : World) (h : W_sock_Sock_Done s n R w) : CW Tryz.prog N_sock_Sock_Done [vp s, vi n] [qi] R w := cs Tryz.func65 (.s .o (.j [] (.b (.s .o (.s (.s .o .o) (.s .o (.s (.s .o .o) .o))))) (.s .o (.s .o .o)))) h (by kernel_rfl)
end Go.X
