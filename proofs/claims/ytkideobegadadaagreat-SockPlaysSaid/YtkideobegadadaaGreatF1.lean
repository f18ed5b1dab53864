/- What each function of the program computes, as a weakest precondition, printed by program; the kernel sees that the code says so. -/
import Derived.Test.YtkideobegadadaaGreatK
import Derived.Test.YtkideobegadadaaGreatProg
set_option linter.unusedVariables false
set_option linter.unusedSimpArgs false
set_option linter.unusedSectionVars false
namespace Go.X
open Go.Proofs
def W_canterref08_Policer_Update (d : Option Pt) (o : Bool) (a : T_u8b) (R : Rs.T [] → WP) : WP :=
 new (Ks.mk K_u8b a) fun n1 =>
 drw <|
 deref d fun q2 =>
 ld cu ⟨n1, 6⟩ fun (x3 : Int) =>
 lo cu q2 4 fun (x4 : Int) =>
 call Tryz.prog N_canterref01_Add [vu x4, vu x3] [qu] fun (r5 : Int) =>
 deref d fun q6 =>
 so q6 4 [.int .u64 r5] <|
 deref d fun q7 =>
 ld cb q7 fun (x8 : Bool) =>
 ite' x8 (
 join [] (fun J9 =>
 ite' o (
 deref d fun q11 =>
 lo ci q11 3 fun (x12 : Int) =>
 deref d fun q13 =>
 so q13 3 [.int .i64 (IntKind.i64.wrap (x12 + (1:Int)))] <|
 J9 ()) <|
 J9 ()) fun (y10 : Unit) =>
 deref d fun q14 =>
 lo ci q14 3 fun (x15 : Int) =>
 ite' (decide (x15 ≥ (48:Int))) (
 deref d fun q16 =>
 st q16 [.bool false] <|
 deref d fun q17 =>
 so q17 3 [zi] <|
 call Tryz.prog N_canterref08_Policer_stop [vp d] [] fun (r18 : Unit) =>
 R ()) <|
 R ()) <|
 deref d fun q19 =>
 lo cb q19 1 fun (x20 : Bool) =>
 ite' (!x20) (
 ld cu ⟨n1, 6⟩ fun (x21 : Int) =>
 ite' (decide (x21 > (0:Int))) (
 ld K_u8b ⟨n1, 0⟩ fun (x22 : T_u8b) =>
 call Tryz.prog N_canterref08_Policer_begin [vp d, .agg (Ks.mk K_u8b x22)] [] fun (r23 : Unit) =>
 R ()) <|
 R ()) <|
 ld cb ⟨n1, 8⟩ fun (x24 : Bool) =>
 ite' x24 (
 call Tryz.prog N_canterref08_Policer_stop [vp d] [] fun (r25 : Unit) =>
 R ()) <|
 join [] (fun J26 =>
 ite' o (
 deref d fun q28 =>
 lo ci q28 3 fun (x29 : Int) =>
 deref d fun q30 =>
 so q30 3 [.int .i64 (IntKind.i64.wrap (x29 + (1:Int)))] <|
 J26 ()) <|
 J26 ()) fun (y27 : Unit) =>
 deref d fun q31 =>
 lo ci q31 3 fun (x32 : Int) =>
 ite' (decide (x32 > (16:Int))) (
 call Tryz.prog N_canterref08_Policer_stop [vp d] [] fun (r33 : Unit) =>
 R ()) <|
 join cb (fun J34 =>
 deref d fun q36 =>
 lo ci q36 3 fun (x37 : Int) =>
 ite' (decide (x37 ≥ (4:Int))) (
 ld cu ⟨n1, 6⟩ fun (x38 : Int) =>
 J34 (decide (x38 > (0:Int)))) <|
 J34 false) fun (y35 : Bool) =>
 ite' y35 (
 ld K_u8b ⟨n1, 0⟩ fun (x39 : T_u8b) =>
 call Tryz.prog N_canterref08_Policer_look [vp d, .agg (Ks.mk K_u8b x39)] [] fun (r40 : Unit) =>
 R ()) <|
 R ()
theorem call_canterref08_Policer_Update (d : Option Pt) (o : Bool) (a : T_u8b) (R : Rs.T [] → WP) (w : World) (h : W_canterref08_Policer_Update d o a R w) : CW Tryz.prog N_canterref08_Policer_Update [vp d, .lf (.bool o), .agg (Ks.mk K_u8b a)] [] R w := cs Tryz.func113 (.s .o (.s (.d (.f 0 [0] (.f 1 [0] (.f 5 [5] (.f 2 [7] (.f 6 [11] (.f 3 [8] (.f 4 [9] (.w 7 [10, 12] (.f 8 [6] (.f 9 [14] (.w 10 [13, 15] .fin)))))))))))) (.s (.s .o (.s (.j [] (.s .o (.s .o .o)) (.s (.s .o (.s (.s .o .o) .o)) .o)) .o)) (.s (.s .o (.s (.s (.s .o (.s .o .o)) .o) .o)) (.s (.s .o (.s (.s .o .o) .o)) (.j [] (.s .o (.s .o .o)) (.b (.s .o (.s .o (.j [(72, qb)] .o (.s .o .o))))))))))) h (by kernel_rfl)
def W_canterref08_Policer_begin (p : Option Pt) (s : T_u8b) (R : Rs.T [] → WP) : WP :=
 new (Ks.mk K_u8b s) fun n1 =>
 deref p fun q2 =>
 so q2 1 [.bool true] <|
 deref p fun q3 =>
 so q3 3 [zi] <|
 drw <|
 ld cu ⟨n1, 0⟩ fun (x4 : Int) =>
 ld cu ⟨n1, 1⟩ fun (x5 : Int) =>
 deref p fun q6 =>
 lo cu q6 4 fun (x7 : Int) =>
 deref p fun q8 =>
 so q8 5 [.int .u64 x4] <|
 chk ⟨n1, 1⟩ (Ks.mk cu x5) <|
 deref p fun q9 =>
 so q9 6 [.int .u64 x5] <|
 deref p fun q10 =>
 so q10 7 [.int .u64 x7] <|
 R ()
theorem call_canterref08_Policer_begin (p : Option Pt) (s : T_u8b) (R : Rs.T [] → WP) (w : World) (h : W_canterref08_Policer_begin p s R w) : CW Tryz.prog N_canterref08_Policer_begin [vp p, .agg (Ks.mk K_u8b s)] [] R w := cs Tryz.func142 (.s .o (.s .o (.d (.f 0 [0] (.f 1 [0] (.f 2 [0] (.f 3 [3] (.f 5 [3] (.f 7 [0] (.f 4 [13] (.f 6 [15] (.f 8 [17] (.f 9 [18] (.f 10 [19] (.f 11 [10] (.f 12 [21] (.w 13 [14, 22] (.f 14 [11] (.f 15 [23] (.w 16 [16, 24] (.f 17 [12] (.f 18 [25] (.w 19 [20, 26] .fin))))))))))))))))))))))) h (by kernel_rfl)
def W_canterref08_Policer_look (d : Option Pt) (o : T_u8b) (R : Rs.T [] → WP) : WP :=
 new (Ks.mk K_u8b o) fun n1 =>
 drw <|
 ld cu ⟨n1, 1⟩ fun (x2 : Int) =>
 deref d fun q3 =>
 deref d fun q4 =>
 deref d fun q5 =>
 ld cu ⟨n1, 0⟩ fun (x6 : Int) =>
 deref d fun q7 =>
 lo cu q3 6 fun (x8 : Int) =>
 lo cu q4 4 fun (x9 : Int) =>
 lo cu q5 7 fun (x10 : Int) =>
 lo cu q7 5 fun (x11 : Int) =>
 call Tryz.prog N_canterref01_Sub [vu x2, vu x8] [qu] fun (r12 : Int) =>
 ck q7 5 cu x11 <|
 ck q5 7 cu x10 <|
 ck q4 4 cu x9 <|
 chk ⟨n1, 0⟩ (Ks.mk cu x6) <|
 call Tryz.prog N_canterref01_Sub [vu x9, vu x10] [qu] fun (r13 : Int) =>
 ck q7 5 cu x11 <|
 chk ⟨n1, 0⟩ (Ks.mk cu x6) <|
 call Tryz.prog N_canterref01_Sub [vu x6, vu x11] [qu] fun (r14 : Int) =>
 join [] (fun J15 =>
 ite' ((r12 == (0:Int)) || (r14 == (0:Int))) (
 R ()) <|
 call Tryz.prog N_canterref01_MulDiv [vu r12, .lf (.int .u64 (50:Int)), .lf (.int .u64 (256:Int))] [qu] fun (r17 : Int) =>
 ite' (decide (r13 < r17)) (
 R ()) <|
 J15 ()) fun (y16 : Unit) =>
 call Tryz.prog N_canterref01_MulDiv [vu r12, .lf (.int .u64 (1000000000:Int)), vu r14] [qu] fun (r18 : Int) =>
 join cb (fun J19 =>
 deref d fun q21 =>
 lo cu q21 2 fun (x22 : Int) =>
 ite' (decide (x22 > (0:Int))) (
 deref d fun q23 =>
 lo cu q23 2 fun (x24 : Int) =>
 call Tryz.prog N_canterref08_near [vu x24, vu r18] [qb] fun (r25 : Bool) =>
 J19 r25) <|
 J19 false) fun (y20 : Bool) =>
 ite' y20 (
 drw <|
 deref d fun q26 =>
 deref d fun q27 =>
 lo cu q26 2 fun (x28 : Int) =>
 lo cu q27 2 fun (x29 : Int) =>
 deref d fun q30 =>
 so q30 2 [.int .u64 (IntKind.u64.wrap ((IntKind.u64.wrap ((IntKind.u64.wrap (x28.tdiv (2:Int))) + (IntKind.u64.wrap (r18.tdiv (2:Int))))) + (IntKind.u64.wrap ((IntKind.u64.wrap ((x29.tmod (2:Int)) + (r18.tmod (2:Int)))).tdiv (2:Int)))))] <|
 deref d fun q31 =>
 st q31 [.bool true] <|
 deref d fun q32 =>
 so q32 3 [zi] <|
 R ()) <|
 deref d fun q33 =>
 so q33 2 [.int .u64 r18] <|
 ld K_u8b ⟨n1, 0⟩ fun (x34 : T_u8b) =>
 call Tryz.prog N_canterref08_Policer_begin [vp d, .agg (Ks.mk K_u8b x34)] [] fun (r35 : Unit) =>
 R ()
theorem call_canterref08_Policer_look (d : Option Pt) (o : T_u8b) (R : Rs.T [] → WP) (w : World) (h : W_canterref08_Policer_look d o R w) : CW Tryz.prog N_canterref08_Policer_look [vp d, .agg (Ks.mk K_u8b o)] [] R w := cs Tryz.func143 (.s .o (.s (.d (.f 0 [3] (.f 2 [0] (.f 7 [0] (.f 11 [0] (.f 16 [3] (.f 18 [0] (.f 1 [8] (.f 3 [10] (.f 8 [15] (.f 12 [19] (.f 17 [24] (.f 19 [26] (.f 4 [11] (.f 9 [16] (.f 13 [20] (.f 20 [27] (.f 5 [12] (.f 10 [17] (.f 14 [21] (.f 21 [28] (.w 6 [9, 13] (.w 15 [18, 22] (.w 22 [25, 29] (.w 23 [14] (.w 24 [23] (.w 25 [30] .fin))))))))))))))))))))))))))) (.j [] (.s .o (.s .o .o)) (.s .o (.s (.j [(58, qb)] .o (.s (.s (.d (.f 0 [0] (.f 1 [0] (.f 6 [7] (.f 9 [0] (.f 14 [7] (.f 2 [60] (.f 7 [65] (.f 10 [68] (.f 15 [73] (.f 3 [61] (.f 11 [69] (.f 4 [62] (.f 12 [70] (.f 5 [63] (.f 13 [71] (.f 8 [64, 66] (.f 16 [72, 74] (.f 17 [75] (.f 18 [67, 76] (.f 19 [59] (.f 20 [78] (.w 21 [77, 79] .fin))))))))))))))))))))))) (.s .o .o)) .o)) (.s .o .o)))))) h (by kernel_rfl)
def W_canterref08_Policer_stop (p : Option Pt) (R : Rs.T [] → WP) : WP :=
 deref p fun q1 =>
 so q1 1 [.bool false] <|
 deref p fun q2 =>
 so q2 2 [zu] <|
 R ()
theorem call_canterref08_Policer_stop (p : Option Pt) (R : Rs.T [] → WP) (w : World) (h : W_canterref08_Policer_stop p R w) : CW Tryz.prog N_canterref08_Policer_stop [vp p] [] R w := cs Tryz.func141 .o h (by kernel_rfl)
def W_canterref08_Probe_Update (d : Option Pt) (o : Int) (a : Int) (a' : Bool) (a'' : Int) (a''' : Int) (R : Rs.T [qb, qb] → WP) : WP :=
 join cb (fun J1 =>
 deref d fun q3 =>
 ld cu q3 fun (x4 : Int) =>
 ite' (decide (x4 > (0:Int))) (
 deref d fun q5 =>
 lo cu q5 1 fun (x6 : Int) =>
 call Tryz.prog N_canterref01_Add [vu x6, .lf (.int .u64 (10000000000:Int))] [qu] fun (r7 : Int) =>
 J1 (decide (o > r7))) <|
 J1 false) fun (y2 : Bool) =>
 join [] (fun J8 =>
 join cb (fun J10 =>
 ite' (decide (a > (0:Int))) (
 deref d fun q12 =>
 ld cu q12 fun (x13 : Int) =>
 ite' (x13 == (0:Int)) (
 J10 true) <|
 deref d fun q14 =>
 ld cu q14 fun (x15 : Int) =>
 J10 ((decide (a ≤ x15)) || y2)) <|
 J10 false) fun (y11 : Bool) =>
 ite' y11 (
 deref d fun q16 =>
 st q16 [.int .u64 a] <|
 deref d fun q17 =>
 so q17 1 [.int .u64 o] <|
 J8 ()) <|
 J8 ()) fun (y9 : Unit) =>
 join cb (fun J18 =>
 ite' y2 (
 deref d fun q20 =>
 lo cb q20 2 fun (x21 : Bool) =>
 J18 (!x21)) <|
 J18 false) fun (y19 : Bool) =>
 ite' y19 (
 deref d fun q22 =>
 so q22 2 [.bool true] <|
 deref d fun q23 =>
 so q23 3 [.bool false] <|
 deref d fun q24 =>
 so q24 4 [.bool false] <|
 R (true, false)) <|
 deref d fun q25 =>
 lo cb q25 2 fun (x26 : Bool) =>
 ite' (!x26) (
 R (false, false)) <|
 deref d fun q27 =>
 lo cb q27 3 fun (x28 : Bool) =>
 ite' (!x28) (
 ite' (decide (a'' ≤ a''')) (
 call Tryz.prog N_canterref01_Add [vu o, .lf (.int .u64 (200000000:Int))] [qu] fun (r29 : Int) =>
 deref d fun q30 =>
 so q30 3 [.bool true] <|
 deref d fun q31 =>
 so q31 4 [.bool false] <|
 deref d fun q32 =>
 so q32 5 [.int .u64 r29] <|
 R (false, false)) <|
 R (false, false)) <|
 deref d fun q33 =>
 lo cb q33 4 fun (x34 : Bool) =>
 deref d fun q35 =>
 so q35 4 [.bool (x34 || a')] <|
 join cb (fun J36 =>
 deref d fun q38 =>
 lo cb q38 4 fun (x39 : Bool) =>
 ite' x39 (
 deref d fun q40 =>
 lo cu q40 5 fun (x41 : Int) =>
 J36 (decide (o > x41))) <|
 J36 false) fun (y37 : Bool) =>
 ite' y37 (
 deref d fun q42 =>
 so q42 1 [.int .u64 o] <|
 deref d fun q43 =>
 so q43 2 [.bool false] <|
 deref d fun q44 =>
 so q44 3 [.bool false] <|
 R (false, true)) <|
 R (false, false)
theorem call_canterref08_Probe_Update (d : Option Pt) (o : Int) (a : Int) (a' : Bool) (a'' : Int) (a''' : Int) (R : Rs.T [qb, qb] → WP) (w : World) (h : W_canterref08_Probe_Update d o a a' a'' a''' R w) : CW Tryz.prog N_canterref08_Probe_Update [vp d, vu o, vu a, .lf (.bool a'), .lf (.int .u64 a''), .lf (.int .u64 a''')] [qb, qb] R w := cs Tryz.func152 (.s .o (.j [(14, qb)] .o (.j [] (.j [(48, qb)] .o (.s .o .o)) (.s (.j [(64, qb)] .o (.s (.s .o (.s .o .o)) .o)) (.s (.s .o (.s (.s .o .o) .o)) (.s (.s .o (.s (.s (.s .o (.s .o .o)) (.s .o .o)) .o)) (.s .o (.s (.j [(119, qb)] .o (.s (.s .o (.s .o .o)) .o)) (.s .o .o))))))))) h (by kernel_rfl)
def W_canterref08_Rounds_Update (r : Option Pt) (s : T_u8b) (R : Rs.T [qb] → WP) : WP :=
 new (Ks.mk K_u8b s) fun n1 =>
 join [] (fun J2 =>
 drw <|
 ld cu ⟨n1, 5⟩ fun (x4 : Int) =>
 ite' (x4 == (0:Int)) (
 R false) <|
 ld cu ⟨n1, 2⟩ fun (x5 : Int) =>
 deref r fun q6 =>
 lo cu q6 1 fun (x7 : Int) =>
 ite' (decide (x5 < x7)) (
 R false) <|
 J2 ()) fun (y3 : Unit) =>
 ld cu ⟨n1, 1⟩ fun (x8 : Int) =>
 deref r fun q9 =>
 so q9 1 [.int .u64 x8] <|
 deref r fun q10 =>
 ld cu q10 fun (x11 : Int) =>
 deref r fun q12 =>
 st q12 [.int .u64 (IntKind.u64.wrap (x11 + (1:Int)))] <|
 R true
theorem call_canterref08_Rounds_Update (r : Option Pt) (s : T_u8b) (R : Rs.T [qb] → WP) (w : World) (h : W_canterref08_Rounds_Update r s R w) : CW Tryz.prog N_canterref08_Rounds_Update [vp r, .agg (Ks.mk K_u8b s)] [qb] R w := cs Tryz.func112 (.s .o (.j [] (.s (.d (.f 0 [3] (.f 1 [5] (.f 2 [6] (.f 3 [7] (.f 4 [3, 8] (.f 6 [0, 8] (.f 5 [8, 9] (.f 7 [8, 11] (.f 8 [8, 12] (.f 9 [8, 13] (.f 10 [8, 10, 14] (.f 11 [8, 15] .fin))))))))))))) (.s (.s .o .o) .o)) (.s .o (.s .o (.s .o .o))))) h (by kernel_rfl)
def W_canterref08_Sampler_Acked (d : Option Pt) (o : Int) (a : Int) (a' : T_u4b) (R : Rs.T [] → WP) : WP :=
 new (Ks.mk K_u4b a') fun n1 =>
 deref d fun q2 =>
 ld cu q2 fun (x3 : Int) =>
 call Tryz.prog N_canterref01_Add [vu x3, vu a] [qu] fun (r4 : Int) =>
 deref d fun q5 =>
 st q5 [.int .u64 r4] <|
 deref d fun q6 =>
 so q6 1 [.int .u64 o] <|
 join [] (fun J7 =>
 drw <|
 deref d fun q9 =>
 deref d fun q10 =>
 ld cu q9 fun (x11 : Int) =>
 lo cu q10 3 fun (x12 : Int) =>
 ite' (decide (x11 > x12)) (
 deref d fun q13 =>
 so q13 3 [zu] <|
 J7 ()) <|
 J7 ()) fun (y8 : Unit) =>
 deref d fun q14 =>
 lo cu q14 5 fun (x15 : Int) =>
 call Tryz.prog N_canterref01_Add [vu x15, vu a] [qu] fun (r16 : Int) =>
 deref d fun q17 =>
 so q17 5 [.int .u64 r16] <|
 join [] (fun J18 =>
 join cb (fun J20 =>
 drw <|
 deref d fun q22 =>
 lo cb q22 4 fun (x23 : Bool) =>
 ite' (!x23) (
 J20 true) <|
 ld cu ⟨n1, 1⟩ fun (x24 : Int) =>
 deref d fun q25 =>
 lo cu q25 6 fun (x26 : Int) =>
 J20 (decide (x24 ≥ x26))) fun (y21 : Bool) =>
 ite' y21 (
 drw <|
 ld cu ⟨n1, 1⟩ fun (x27 : Int) =>
 ld cu ⟨n1, 2⟩ fun (x28 : Int) =>
 ld cb ⟨n1, 4⟩ fun (x29 : Bool) =>
 deref d fun q30 =>
 so q30 6 [.int .u64 x27] <|
 chk ⟨n1, 4⟩ (Ks.mk cb x29) <|
 chk ⟨n1, 2⟩ (Ks.mk cu x28) <|
 deref d fun q31 =>
 so q31 7 [.int .u64 x28] <|
 chk ⟨n1, 4⟩ (Ks.mk cb x29) <|
 deref d fun q32 =>
 so q32 10 [.bool x29] <|
 drw <|
 ld cu ⟨n1, 0⟩ fun (x33 : Int) =>
 ld cu ⟨n1, 3⟩ fun (x34 : Int) =>
 ld cu ⟨n1, 0⟩ fun (x35 : Int) =>
 call Tryz.prog N_canterref01_Sub [vu x33, vu x34] [qu] fun (r36 : Int) =>
 chk ⟨n1, 0⟩ (Ks.mk cu x35) <|
 call Tryz.prog N_canterref01_Sub [vu o, vu x35] [qu] fun (r37 : Int) =>
 deref d fun q38 =>
 so q38 8 [.int .u64 r36] <|
 deref d fun q39 =>
 so q39 9 [.int .u64 r37] <|
 ld cu ⟨n1, 0⟩ fun (x40 : Int) =>
 deref d fun q41 =>
 so q41 2 [.int .u64 x40] <|
 J18 ()) <|
 J18 ()) fun (y19 : Unit) =>
 deref d fun q42 =>
 so q42 4 [.bool true] <|
 R ()
theorem call_canterref08_Sampler_Acked (d : Option Pt) (o : Int) (a : Int) (a' : T_u4b) (R : Rs.T [] → WP) (w : World) (h : W_canterref08_Sampler_Acked d o a a' R w) : CW Tryz.prog N_canterref08_Sampler_Acked [vp d, vu o, vu a, .agg (Ks.mk K_u4b a')] [] R w := cs Tryz.func67 (.s .o (.s .o (.j [] (.s (.d (.f 0 [0] (.f 4 [0] (.f 1 [21] (.f 5 [25] (.f 2 [22] (.f 6 [26] (.f 3 [23] (.f 7 [27] (.f 8 [24, 28] .fin)))))))))) (.s .o .o)) (.s .o (.j [] (.j [(55, qb)] (.d (.f 0 [0] (.f 1 [42] (.f 2 [43] (.f 3 [44] (.f 4 [45] (.f 5 [46] (.f 6 [7, 47] (.f 8 [0, 47] (.f 7 [47, 48] (.f 9 [47, 50] (.f 10 [47, 51] (.f 11 [47, 52] (.f 12 [47, 49, 53] (.f 13 [47, 54] .fin))))))))))))))) (.s (.s (.d (.f 0 [0] (.f 1 [0] (.f 2 [0] (.f 3 [7] (.f 5 [7] (.f 7 [7] (.f 4 [59] (.f 6 [61] (.f 8 [63] (.f 9 [56] (.f 10 [65] (.w 11 [60, 66] (.f 12 [57] (.f 13 [67] (.w 14 [62, 68] (.f 15 [58] (.f 16 [69] (.w 17 [64, 70] .fin))))))))))))))))))) (.s (.d (.f 0 [0] (.f 1 [0] (.f 2 [7] (.f 4 [7] (.f 7 [1] (.f 8 [7] (.f 3 [73] (.f 5 [75] (.f 9 [79] (.w 6 [74, 76] (.w 10 [78, 80] (.f 11 [71] (.f 12 [82] (.w 13 [77, 83] (.f 14 [72] (.f 15 [84] (.w 16 [81, 85] .fin)))))))))))))))))) .o)) .o)) .o))))) h (by kernel_rfl)
def W_canterref08_Sampler_Limit (s : Option Pt) (flight : Int) (R : Rs.T [] → WP) : WP :=
 deref s fun q1 =>
 ld cu q1 fun (x2 : Int) =>
 call Tryz.prog N_canterref01_Add [vu x2, vu flight] [qu] fun (r3 : Int) =>
 deref s fun q4 =>
 so q4 3 [.int .u64 (if r3 > (1:Int) then r3 else (1:Int))] <|
 R ()
theorem call_canterref08_Sampler_Limit (s : Option Pt) (flight : Int) (R : Rs.T [] → WP) (w : World) (h : W_canterref08_Sampler_Limit s flight R w) : CW Tryz.prog N_canterref08_Sampler_Limit [vp s, vu flight] [] R w := cs Tryz.func60 .o h (by kernel_rfl)
def W_canterref08_Sampler_Sent (s : Option Pt) (now : Int) (flight : Int) (R : Rs.T [.agg K_u4b] → WP) : WP :=
 new [zu, zu, zu, zu, .bool false] fun n1 =>
 join [] (fun J2 =>
 ite' (flight == (0:Int)) (
 deref s fun q4 =>
 so q4 2 [.int .u64 now] <|
 deref s fun q5 =>
 so q5 1 [.int .u64 now] <|
 J2 ()) <|
 J2 ()) fun (y3 : Unit) =>
 drw <|
 deref s fun q6 =>
 deref s fun q7 =>
 deref s fun q8 =>
 deref s fun q9 =>
 ld cu q6 fun (x10 : Int) =>
 lo cu q7 1 fun (x11 : Int) =>
 lo cu q8 2 fun (x12 : Int) =>
 lo cu q9 3 fun (x13 : Int) =>
 st ⟨n1, 0⟩ [.int .u64 now, .int .u64 x10, .int .u64 x11, .int .u64 x12, .bool (x13 != (0:Int))] <|
 ld K_u4b ⟨n1, 0⟩ fun (x14 : T_u4b) =>
 R x14
theorem call_canterref08_Sampler_Sent (s : Option Pt) (now : Int) (flight : Int) (R : Rs.T [.agg K_u4b] → WP) (w : World) (h : W_canterref08_Sampler_Sent s now flight R w) : CW Tryz.prog N_canterref08_Sampler_Sent [vp s, vu now, vu flight] [.agg K_u4b] R w := cs Tryz.func61 (.s .o (.j [] (.s .o (.s .o .o)) (.s (.d (.f 0 [1] (.f 1 [0] (.f 5 [0] (.f 9 [0] (.f 13 [0] (.f 2 [18] (.f 6 [22] (.f 10 [26] (.f 14 [30] (.f 3 [19] (.f 7 [23] (.f 11 [27] (.f 15 [31] (.f 4 [20] (.f 8 [24] (.f 12 [28] (.f 16 [32] (.f 17 [33] (.f 18 [17, 21, 25, 29, 34] (.w 19 [6, 35] .fin))))))))))))))))))))) .o))) h (by kernel_rfl)
def W_canterref08_Sampler_Take (d : Option Pt) (o : Int) (a : Int) (a' : Int) (R : Rs.T [.agg K_u8b] → WP) : WP :=
 new [zu, zu, zu, zu, zu, zu, zu, zu, .bool false] fun n1 =>
 deref d fun q2 =>
 ld cu q2 fun (x3 : Int) =>
 new [zu, zu, zu, zu, zu, zu, zu, zu, .bool false] fun n4 =>
 st ⟨n4, 0⟩ [.int .u64 o, .int .u64 x3, zu, zu, zu, zu, .int .u64 a, .int .u64 a', .bool false] <|
 join [] (fun J5 =>
 deref d fun q7 =>
 lo cb q7 4 fun (x8 : Bool) =>
 ite' x8 (
 drw <|
 deref d fun q9 =>
 deref d fun q10 =>
 deref d fun q11 =>
 deref d fun q12 =>
 lo cu q9 5 fun (x13 : Int) =>
 lo cu q10 6 fun (x14 : Int) =>
 lo cb q11 10 fun (x15 : Bool) =>
 lo cu q12 9 fun (x16 : Int) =>
 st ⟨n4, 5⟩ [.int .u64 x13] <|
 ck q12 9 cu x16 <|
 ck q11 10 cb x15 <|
 ck q10 6 cu x14 <|
 st ⟨n4, 2⟩ [.int .u64 x14] <|
 ck q12 9 cu x16 <|
 ck q11 10 cb x15 <|
 st ⟨n4, 8⟩ [.bool x15] <|
 ck q12 9 cu x16 <|
 st ⟨n4, 4⟩ [.int .u64 x16] <|
 drw <|
 deref d fun q17 =>
 deref d fun q18 =>
 lo cu q17 8 fun (x19 : Int) =>
 lo cu q18 7 fun (x20 : Int) =>
 call Tryz.prog N_canterref01_Sub [vu o, vu x20] [qu] fun (r21 : Int) =>
 ck q17 8 cu x19 <|
 st ⟨n4, 3⟩ [.int .u64 (if r21 > x19 then r21 else x19)] <|
 J5 ()) <|
 J5 ()) fun (y6 : Unit) =>
 deref d fun q22 =>
 so q22 4 [.bool false] <|
 deref d fun q23 =>
 so q23 5 [zu] <|
 deref d fun q24 =>
 so q24 6 [zu] <|
 deref d fun q25 =>
 so q25 7 [zu] <|
 deref d fun q26 =>
 so q26 8 [zu] <|
 deref d fun q27 =>
 so q27 9 [zu] <|
 deref d fun q28 =>
 so q28 10 [.bool false] <|
 ld K_u8b ⟨n4, 0⟩ fun (x29 : T_u8b) =>
 st ⟨n1, 0⟩ (Ks.mk K_u8b x29) <|
 ld K_u8b ⟨n1, 0⟩ fun (x30 : T_u8b) =>
 R x30
theorem call_canterref08_Sampler_Take (d : Option Pt) (o : Int) (a : Int) (a' : Int) (R : Rs.T [.agg K_u8b] → WP) (w : World) (h : W_canterref08_Sampler_Take d o a a' R w) : CW Tryz.prog N_canterref08_Sampler_Take [vp d, vu o, vu a, .lf (.int .u64 a')] [.agg K_u8b] R w := cs Tryz.func69 (.s .o (.s .o (.j [] (.s .o (.s (.s (.d (.f 0 [0] (.f 4 [0] (.f 8 [0] (.f 12 [0] (.f 1 [22] (.f 5 [26] (.f 9 [30] (.f 13 [34] (.f 2 [23] (.f 6 [27] (.f 10 [31] (.f 14 [35] (.f 3 [24] (.f 7 [28] (.f 11 [32] (.f 15 [36] (.f 16 [9] (.w 17 [25, 38] (.f 18 [9] (.w 19 [29, 39] (.f 20 [9] (.w 21 [33, 40] (.f 22 [9] (.w 23 [37, 41] .fin))))))))))))))))))))))))) (.d (.f 0 [0] (.f 4 [1] (.f 5 [0] (.f 1 [42] (.f 6 [47] (.f 2 [43] (.f 7 [48] (.f 3 [44] (.f 8 [49] (.w 9 [46, 50] (.f 10 [45, 51] (.f 11 [9] (.w 12 [52, 53] .fin))))))))))))))) .o)) (.s .o (.s .o .o))))) h (by kernel_rfl)
def W_canterref08_Win_Reset (w' : Option Pt) (t : Int) (v : Int) (R : Rs.T [] → WP) : WP :=
 deref w' fun q1 =>
 so q1 1 [.int .u64 t, .int .u64 t, .int .u64 t] <|
 deref w' fun q2 =>
 so q2 4 [.int .u64 v, .int .u64 v, .int .u64 v] <|
 deref w' fun q3 =>
 lo cu q3 7 fun (x4 : Int) =>
 deref w' fun q5 =>
 so q5 7 [.int .u64 (if t > x4 then t else x4)] <|
 R ()
theorem call_canterref08_Win_Reset (w' : Option Pt) (t : Int) (v : Int) (R : Rs.T [] → WP) (w : World) (h : W_canterref08_Win_Reset w' t v R w) : CW Tryz.prog N_canterref08_Win_Reset [.lf (.ptr w'), vu t, vu v] [] R w := cs Tryz.func145 (.s .o .o) h (by kernel_rfl)
def W_canterref08_Win_Update (d : Option Pt) (o : Int) (a : Int) (R : Rs.T [qu] → WP) : WP :=
 deref d fun q1 =>
 lo cu q1 7 fun (x2 : Int) =>
 deref d fun q3 =>
 so q3 7 [.int .u64 (if x2 > o then x2 else o)] <|
 join cb (fun J4 =>
 drw <|
 call Tryz.prog N_canterref08_Win_beats [vp d, vu a, .lf (zi)] [qb] fun (r6 : Bool) =>
 ite' r6 (
 J4 true) <|
 deref d fun q7 =>
 req (0 ≤ (2:Int) ∧ (2:Int) < 3) <|
 ld cu ⟨q7.b, q7.o + 1 + (2:Int).toNat * 1⟩ fun (x8 : Int) =>
 ite' (decide ((if x2 > o then x2 else o) > x8)) (
 deref d fun q9 =>
 deref d fun q10 =>
 req (0 ≤ (2:Int) ∧ (2:Int) < 3) <|
 ld cu q10 fun (x11 : Int) =>
 ld cu ⟨q9.b, q9.o + 1 + (2:Int).toNat * 1⟩ fun (x12 : Int) =>
 J4 (decide ((IntKind.u64.wrap ((if x2 > o then x2 else o) - x12)) > x11))) <|
 J4 false) fun (y5 : Bool) =>
 ite' y5 (
 call Tryz.prog N_canterref08_Win_Reset [vp d, .lf (.int .u64 (if x2 > o then x2 else o)), vu a] [] fun (r13 : Unit) =>
 R a) <|
 join [] (fun J14 =>
 call Tryz.prog N_canterref08_Win_beats [vp d, vu a, .lf (.int .i64 (1:Int))] [qb] fun (r16 : Bool) =>
 ite' r16 (
 call Tryz.prog N_canterref08_Win_set [vp d, .lf (.int .i64 (1:Int)), .lf (.int .u64 (if x2 > o then x2 else o)), vu a] [] fun (r17 : Unit) =>
 call Tryz.prog N_canterref08_Win_set [vp d, .lf (.int .i64 (2:Int)), .lf (.int .u64 (if x2 > o then x2 else o)), vu a] [] fun (r18 : Unit) =>
 J14 ()) <|
 call Tryz.prog N_canterref08_Win_beats [vp d, vu a, .lf (.int .i64 (2:Int))] [qb] fun (r19 : Bool) =>
 ite' r19 (
 call Tryz.prog N_canterref08_Win_set [vp d, .lf (.int .i64 (2:Int)), .lf (.int .u64 (if x2 > o then x2 else o)), vu a] [] fun (r20 : Unit) =>
 J14 ()) <|
 J14 ()) fun (y15 : Unit) =>
 deref d fun q21 =>
 req (0 ≤ (0:Int) ∧ (0:Int) < 3) <|
 ld cu ⟨q21.b, q21.o + 1 + (0:Int).toNat * 1⟩ fun (x22 : Int) =>
 call Tryz.prog N_canterref01_Sub [.lf (.int .u64 (if x2 > o then x2 else o)), vu x22] [qu] fun (r23 : Int) =>
 join [] (fun J24 =>
 deref d fun q26 =>
 ld cu q26 fun (x27 : Int) =>
 ite' (decide (r23 > x27)) (
 call Tryz.prog N_canterref08_Win_shift [vp d, .lf (.int .u64 (if x2 > o then x2 else o)), vu a] [] fun (r28 : Unit) =>
 drw <|
 deref d fun q29 =>
 deref d fun q30 =>
 req (0 ≤ (0:Int) ∧ (0:Int) < 3) <|
 ld cu q30 fun (x31 : Int) =>
 ld cu ⟨q29.b, q29.o + 1 + (0:Int).toNat * 1⟩ fun (x32 : Int) =>
 call Tryz.prog N_canterref01_Sub [.lf (.int .u64 (if x2 > o then x2 else o)), vu x32] [qu] fun (r33 : Int) =>
 chk q30 (Ks.mk cu x31) <|
 ite' (decide (r33 > x31)) (
 call Tryz.prog N_canterref08_Win_shift [vp d, .lf (.int .u64 (if x2 > o then x2 else o)), vu a] [] fun (r34 : Unit) =>
 J24 ()) <|
 J24 ()) <|
 join cb (fun J35 =>
 drw <|
 deref d fun q37 =>
 deref d fun q38 =>
 req (0 ≤ (1:Int) ∧ (1:Int) < 3) <|
 req (0 ≤ (0:Int) ∧ (0:Int) < 3) <|
 ld cu ⟨q37.b, q37.o + 1 + (1:Int).toNat * 1⟩ fun (x39 : Int) =>
 ld cu ⟨q38.b, q38.o + 1 + (0:Int).toNat * 1⟩ fun (x40 : Int) =>
 ite' (x39 == x40) (
 deref d fun q41 =>
 ld cu q41 fun (x42 : Int) =>
 J35 (decide (r23 > (IntKind.u64.wrap (x42.tdiv (4:Int)))))) <|
 J35 false) fun (y36 : Bool) =>
 ite' y36 (
 call Tryz.prog N_canterref08_Win_set [vp d, .lf (.int .i64 (1:Int)), .lf (.int .u64 (if x2 > o then x2 else o)), vu a] [] fun (r43 : Unit) =>
 call Tryz.prog N_canterref08_Win_set [vp d, .lf (.int .i64 (2:Int)), .lf (.int .u64 (if x2 > o then x2 else o)), vu a] [] fun (r44 : Unit) =>
 J24 ()) <|
 drw <|
 deref d fun q45 =>
 deref d fun q46 =>
 req (0 ≤ (2:Int) ∧ (2:Int) < 3) <|
 req (0 ≤ (1:Int) ∧ (1:Int) < 3) <|
 ld cu ⟨q45.b, q45.o + 1 + (2:Int).toNat * 1⟩ fun (x47 : Int) =>
 ld cu ⟨q46.b, q46.o + 1 + (1:Int).toNat * 1⟩ fun (x48 : Int) =>
 ite' (x47 == x48) (
 deref d fun q49 =>
 ld cu q49 fun (x50 : Int) =>
 ite' (decide (r23 > (IntKind.u64.wrap (x50.tdiv (2:Int))))) (
 call Tryz.prog N_canterref08_Win_set [vp d, .lf (.int .i64 (2:Int)), .lf (.int .u64 (if x2 > o then x2 else o)), vu a] [] fun (r51 : Unit) =>
 J24 ()) <|
 J24 ()) <|
 J24 ()) fun (y25 : Unit) =>
 deref d fun q52 =>
 req (0 ≤ (0:Int) ∧ (0:Int) < 3) <|
 ld cu ⟨q52.b, q52.o + 4 + (0:Int).toNat * 1⟩ fun (x53 : Int) =>
 R x53
theorem call_canterref08_Win_Update (d : Option Pt) (o : Int) (a : Int) (R : Rs.T [qu] → WP) (w : World) (h : W_canterref08_Win_Update d o a R w) : CW Tryz.prog N_canterref08_Win_Update [vp d, vu o, vu a] [qu] R w := cs Tryz.func114 (.s .o (.s .o (.s .o (.s (.j [(43, qb)] (.d (.f 0 [0] (.f 1 [2] (.w 2 [18, 19] (.f 3 [20] (.f 4 [1, 21] (.f 5 [0, 21] (.f 6 [21, 23] (.f 7 [21, 24] (.f 8 [21, 25] (.f 9 [21, 26] (.f 10 [21, 22, 27] (.f 11 [21, 28] (.f 12 [1, 29] (.f 13 [0, 29] (.f 19 [0, 29] (.f 14 [29, 31] (.f 20 [29, 37] (.f 15 [29, 32] (.f 21 [29, 38] (.f 16 [29, 33] (.f 22 [29, 39] (.f 17 [29, 34] (.f 18 [29, 30, 35] (.f 23 [29, 36, 40] (.f 24 [21, 29, 41] (.f 25 [21, 42] .fin))))))))))))))))))))))))))) (.s (.s .o (.s .o .o)) .o)) (.j [] (.s .o (.s (.s .o .o) (.s .o (.s .o .o)))) (.s .o (.j [] (.b (.s .o (.s (.s .o (.s (.d (.f 0 [1] (.f 1 [0] (.f 7 [0] (.f 2 [86] (.f 8 [92] (.f 3 [87] (.f 9 [93] (.f 4 [88] (.f 10 [94] (.f 5 [89] (.w 6 [85, 90] (.f 11 [91, 95] .fin))))))))))))) (.s .o .o))) (.j [(101, qb)] (.d (.f 0 [0] (.f 5 [0] (.f 1 [102] (.f 6 [107] (.f 2 [103] (.f 7 [108] (.f 3 [104] (.f 8 [109] (.f 4 [105] (.f 9 [110] (.f 10 [106, 111] (.f 11 [112] (.f 12 [7, 113] (.f 13 [0, 113] (.f 14 [113, 115] (.f 15 [113, 116] (.f 16 [113, 117] (.f 17 [113, 118] (.f 18 [113, 114, 119] (.f 19 [113, 120] (.w 20 [121] .fin)))))))))))))))))))))) (.s (.s .o .o) (.s (.d (.f 0 [0] (.f 5 [0] (.f 1 [131] (.f 6 [136] (.f 2 [132] (.f 7 [137] (.f 3 [133] (.f 8 [138] (.f 4 [134] (.f 9 [139] (.f 10 [135, 140] (.f 11 [141] (.f 12 [7, 142] (.f 13 [0, 142] (.f 14 [142, 144] (.f 15 [142, 145] (.f 16 [142, 146] (.f 17 [142, 147] (.f 18 [142, 143, 148] (.f 19 [142, 149] (.w 20 [150] .fin)))))))))))))))))))))) (.s .o .o))))))) (.s .o .o)))))))) h (by kernel_rfl)
def W_canterref08_Win_beats (w' : Option Pt) (v : Int) (i : Int) (R : Rs.T [qb] → WP) : WP :=
 deref w' fun q1 =>
 lo cb q1 8 fun (x2 : Bool) =>
 ite' x2 (
 deref w' fun q3 =>
 req (0 ≤ i ∧ i < 3) <|
 ld cu ⟨q3.b, q3.o + 4 + i.toNat * 1⟩ fun (x4 : Int) =>
 R (decide (v ≤ x4))) <|
 deref w' fun q5 =>
 req (0 ≤ i ∧ i < 3) <|
 ld cu ⟨q5.b, q5.o + 4 + i.toNat * 1⟩ fun (x6 : Int) =>
 R (decide (v ≥ x6))
theorem call_canterref08_Win_beats (w' : Option Pt) (v : Int) (i : Int) (R : Rs.T [qb] → WP) (w : World) (h : W_canterref08_Win_beats w' v i R w) : CW Tryz.prog N_canterref08_Win_beats [.lf (.ptr w'), vu v, vi i] [qb] R w := cs Tryz.func144 (.s .o (.s (.s .o (.s (.s .o .o) .o)) (.s .o .o))) h (by kernel_rfl)
def W_canterref08_Win_set (w' : Option Pt) (i : Int) (t : Int) (v : Int) (R : Rs.T [] → WP) : WP :=
 drw <|
 deref w' fun q1 =>
 deref w' fun q2 =>
 req (0 ≤ i ∧ i < 3) <|
 st ⟨q1.b, q1.o + 1 + i.toNat * 1⟩ [.int .u64 t] <|
 req (0 ≤ i ∧ i < 3) <|
 st ⟨q2.b, q2.o + 4 + i.toNat * 1⟩ [.int .u64 v] <|
 R ()
theorem call_canterref08_Win_set (w' : Option Pt) (i : Int) (t : Int) (v : Int) (R : Rs.T [] → WP) (w : World) (h : W_canterref08_Win_set w' i t v R w) : CW Tryz.prog N_canterref08_Win_set [.lf (.ptr w'), vi i, vu t, vu v] [] R w := cs Tryz.func146 (.d (.f 0 [0] (.f 1 [1] (.f 2 [0] (.f 3 [1] (.f 4 [2] (.f 5 [3] (.f 6 [8] (.f 10 [10] (.f 7 [14] (.f 11 [17] (.f 8 [9, 15] (.w 9 [12, 16] (.f 12 [11, 18] (.w 13 [13, 19] .fin))))))))))))))) h (by kernel_rfl)
def W_canterref08_Win_shift (w' : Option Pt) (t : Int) (v : Int) (R : Rs.T [] → WP) : WP :=
 drw <|
 deref w' fun q1 =>
 deref w' fun q2 =>
 deref w' fun q3 =>
 deref w' fun q4 =>
 req (0 ≤ (1:Int) ∧ (1:Int) < 3) <|
 req (0 ≤ (2:Int) ∧ (2:Int) < 3) <|
 req (0 ≤ (1:Int) ∧ (1:Int) < 3) <|
 req (0 ≤ (2:Int) ∧ (2:Int) < 3) <|
 ld cu ⟨q1.b, q1.o + 1 + (1:Int).toNat * 1⟩ fun (x5 : Int) =>
 ld cu ⟨q2.b, q2.o + 1 + (2:Int).toNat * 1⟩ fun (x6 : Int) =>
 ld cu ⟨q3.b, q3.o + 4 + (1:Int).toNat * 1⟩ fun (x7 : Int) =>
 ld cu ⟨q4.b, q4.o + 4 + (2:Int).toNat * 1⟩ fun (x8 : Int) =>
 deref w' fun q9 =>
 so q9 1 [.int .u64 x5, .int .u64 x6, .int .u64 t] <|
 deref w' fun q10 =>
 so q10 4 [.int .u64 x7, .int .u64 x8, .int .u64 v] <|
 R ()
theorem call_canterref08_Win_shift (w' : Option Pt) (t : Int) (v : Int) (R : Rs.T [] → WP) (w : World) (h : W_canterref08_Win_shift w' t v R w) : CW Tryz.prog N_canterref08_Win_shift [.lf (.ptr w'), vu t, vu v] [] R w := cs Tryz.func147 (.d (.f 0 [0] (.f 1 [0] (.f 2 [0] (.f 7 [0] (.f 12 [1] (.f 14 [0] (.f 19 [0] (.f 24 [2] (.f 3 [8] (.f 8 [13] (.f 15 [20] (.f 20 [25] (.f 4 [9] (.f 9 [14] (.f 16 [21] (.f 21 [26] (.f 5 [10] (.f 10 [15] (.f 17 [22] (.f 22 [27] (.f 6 [11] (.f 11 [16] (.f 18 [23] (.f 23 [28] (.f 13 [12, 17, 18] (.f 25 [24, 29, 30] (.f 26 [6] (.f 27 [32] (.w 28 [19, 33] (.f 29 [7] (.f 30 [34] (.w 31 [31, 35] .fin))))))))))))))))))))))))))))))))) h (by kernel_rfl)
def W_canterref08_near (old : Int) (bw : Int) (R : Rs.T [qb] → WP) : WP :=
 R (decide ((IntKind.u64.wrap ((if bw > old then bw else old) - (if bw < old then bw else old))) ≤ (IntKind.u64.wrap (old.tdiv (8:Int)))))
theorem call_canterref08_near (old : Int) (bw : Int) (R : Rs.T [qb] → WP) (w : World) (h : W_canterref08_near old bw R w) : CW Tryz.prog N_canterref08_near [vu old, vu bw] [qb] R w := cs Tryz.func170 (.s .o (.s .o .o)) h (by kernel_rfl)
def W_canterref20_Board_Ack (d : Option Pt) (o : Int) (a : Sl) (R : Rs.T [qs, qu, qi] → WP) : WP :=
 deref d fun q1 =>
 lo cu q1 1 fun (x2 : Int) =>
 loop [.bool, .int .i64] ((decide (o > x2)), (0:Int)) fun J3 (y4 : Bool × Int) =>
 ite' (decide (y4.2 < ((a.len : Nat) : Int))) (
 drw <|
 ite' y4.1 (
 J3 (true, (IntKind.i64.wrap (y4.2 + (1:Int))))) <|
 idx a y4.2 2 fun q5 =>
 deref d fun q6 =>
 lo cu q5 1 fun (x7 : Int) =>
 lo cu q6 1 fun (x8 : Int) =>
 ite' (decide (x7 > x8)) (
 J3 (true, (IntKind.i64.wrap (y4.2 + (1:Int))))) <|
 idx a y4.2 2 fun q9 =>
 idx a y4.2 2 fun q10 =>
 ld cu q9 fun (x11 : Int) =>
 lo cu q10 1 fun (x12 : Int) =>
 J3 ((decide (x11 ≥ x12)), (IntKind.i64.wrap (y4.2 + (1:Int))))) <|
 ite' y4.1 (
 R (⟨none, 0, 0⟩, (0:Int), (11:Int))) <|
 loop K_s2i (⟨none, 0, 0⟩, ⟨none, 0, 0⟩, (0:Int)) fun J13 (y14 : T_s2i) =>
 deref d fun q15 =>
 ld cl q15 fun (x16 : Sl) =>
 ite' (decide (y14.2.2 < ((x16.len : Nat) : Int))) (
 deref d fun q17 =>
 ld cl q17 fun (x18 : Sl) =>
 idx x18 y14.2.2 9 fun q19 =>
 ld K_u6b3 q19 fun (x20 : T_u6b3) =>
 new [zu, zu, zu, zu, zu, zu, .bool false, .bool false, .bool false] fun n21 =>
 st ⟨n21, 0⟩ (Ks.mk K_u6b3 x20) <|
 join [.bool, .bool] (fun J22 =>
 drw <|
 ld cu ⟨n21, 1⟩ fun (x24 : Int) =>
 ld cb ⟨n21, 7⟩ fun (x25 : Bool) =>
 ite' (!x25) (
 ld K_u6b3 ⟨n21, 0⟩ fun (x26 : T_u6b3) =>
 call Tryz.prog N_canterref20_within [.agg (Ks.mk K_u6b3 x26), .lf (.sl a)] [qb] fun (r27 : Bool) =>
 chk ⟨n21, 1⟩ (Ks.mk cu x24) <|
 J22 ((decide (x24 ≤ o)), r27)) <|
 J22 ((decide (x24 ≤ o)), false)) fun (y23 : Bool × Bool) =>
 join cl (fun J28 =>
 join cb (fun J30 =>
 ite' y23.1 (
 ld cb ⟨n21, 7⟩ fun (x32 : Bool) =>
 J30 ((!x32) || ((!y23.1) && y23.2))) <|
 J30 ((!y23.1) && y23.2)) fun (y31 : Bool) =>
 ite' y31 (
 ld K_u6b3 ⟨n21, 0⟩ fun (x33 : T_u6b3) =>
 new [.int .u64 x33.1, .int .u64 x33.2.1, .int .u64 x33.2.2.1, .int .u64 x33.2.2.2.1, .int .u64 x33.2.2.2.2.1, .int .u64 x33.2.2.2.2.2.1, .bool x33.2.2.2.2.2.2.1, .bool x33.2.2.2.2.2.2.2.1, .bool x33.2.2.2.2.2.2.2.2] fun n34 =>
 app 9 y14.2.1 ⟨some ⟨n34, 0⟩, 1, 1⟩ fun s35 =>
 J28 s35) <|
 J28 y14.2.1) fun (y29 : Sl) =>
 ite' y23.1 (
 J13 (y14.1, y29, (IntKind.i64.wrap (y14.2.2 + (1:Int))))) <|
 join [] (fun J36 =>
 ite' y23.2 (
 st ⟨n21, 7⟩ [.bool true] <|
 st ⟨n21, 8⟩ [.bool false] <|
 J36 ()) <|
 J36 ()) fun (y37 : Unit) =>
 ld K_u6b3 ⟨n21, 0⟩ fun (x38 : T_u6b3) =>
 new [.int .u64 x38.1, .int .u64 x38.2.1, .int .u64 x38.2.2.1, .int .u64 x38.2.2.2.1, .int .u64 x38.2.2.2.2.1, .int .u64 x38.2.2.2.2.2.1, .bool x38.2.2.2.2.2.2.1, .bool x38.2.2.2.2.2.2.2.1, .bool x38.2.2.2.2.2.2.2.2] fun n39 =>
 app 9 y14.1 ⟨some ⟨n39, 0⟩, 1, 1⟩ fun s40 =>
 J13 (s40, y29, (IntKind.i64.wrap (y14.2.2 + (1:Int))))) <|
 loop K_ui2 ((0:Int), (0:Int), (IntKind.i64.wrap (((y14.1.len : Nat) : Int) - (1:Int)))) fun J41 (y42 : T_ui2) =>
 ite' (decide (y42.2.2 ≥ (0:Int))) (
 idx y14.1 y42.2.2 9 fun q43 =>
 deref (some q43) fun q44 =>
 lo cb q44 7 fun (x45 : Bool) =>
 ite' x45 (
 J41 (y42.1, (IntKind.i64.wrap (y42.2.1 + (1:Int))), (IntKind.i64.wrap (y42.2.2 - (1:Int))))) <|
 deref (some q43) fun q46 =>
 lo cb q46 8 fun (x47 : Bool) =>
 ite' ((!x47) && (decide (y42.2.1 ≥ (3:Int)))) (
 deref (some q43) fun q48 =>
 so q48 8 [.bool true] <|
 drw <|
 deref (some q43) fun q49 =>
 deref (some q43) fun q50 =>
 lo cu q49 1 fun (x51 : Int) =>
 ld cu q50 fun (x52 : Int) =>
 J41 ((IntKind.u64.wrap ((IntKind.u64.wrap (y42.1 + x51)) - x52)), y42.2.1, (IntKind.i64.wrap (y42.2.2 - (1:Int))))) <|
 J41 (y42.1, y42.2.1, (IntKind.i64.wrap (y42.2.2 - (1:Int))))) <|
 deref d fun q53 =>
 st q53 [.sl y14.1] <|
 R (y14.2.1, y42.1, (0:Int))
theorem call_canterref20_Board_Ack (d : Option Pt) (o : Int) (a : Sl) (R : Rs.T [qs, qu, qi] → WP) (w : World) (h : W_canterref20_Board_Ack d o a R w) : CW Tryz.prog N_canterref20_Board_Ack [vp d, vu o, .lf (.sl a)] [qs, qu, qi] R w := cs Tryz.func65 (.s .o (.s .o (.s (.s .o (.b (.l [(9, qb), (10, qi)] (.s (.s .o (.s .o .o)) (.s (.b (.d (.f 0 [9] (.f 1 [33] (.f 2 [2, 34] (.f 3 [10, 34] (.f 7 [0, 34] (.f 4 [34, 35, 36] (.f 8 [34, 40] (.f 5 [34, 37] (.f 9 [34, 41] (.f 6 [34, 38] (.f 10 [34, 42] (.f 11 [34, 39, 43] (.f 12 [34, 44] (.f 13 [45] (.f 14 [2, 46] (.f 15 [10, 46] (.f 19 [2, 46] (.f 20 [10, 46] (.f 16 [46, 47, 48] (.f 21 [46, 52, 53] (.f 17 [46, 49] (.f 22 [46, 54] (.f 18 [46, 50] (.f 23 [46, 55] (.f 24 [46, 51, 56] (.f 25 [46, 57] (.w 26 [58] .fin))))))))))))))))))))))))))))) .o))))) (.s (.s .o (.s (.s .o .o) .o)) (.s .o (.s (.s .o (.b (.l [(11, qs), (12, qs), (13, qi)] (.s (.s .o (.s .o .o)) (.s (.b (.s .o (.j [(15, qb), (16, qb)] (.d (.f 0 [14] (.f 2 [1] (.f 4 [14] (.f 1 [76] (.f 5 [80] (.f 3 [77, 78] (.f 6 [81] (.f 7 [82] (.f 8 [14, 83] (.f 9 [2, 83] (.w 10 [83, 84, 85] (.f 11 [83, 86] (.w 12 [79] (.w 13 [87] .fin))))))))))))))) (.j [(12, qs)] (.j [(100, qb)] .o (.s .o .o)) (.s (.s .o (.s .o .o)) (.j [] (.s .o (.s .o .o)) .o)))))) .o))))) (.s .o (.s (.s .o (.b (.l [(17, qu), (18, qi), (19, qi)] (.s (.s .o (.s .o .o)) (.s (.b (.s .o (.b (.s .o (.s .o (.s .o (.s (.s .o (.d (.f 0 [17] (.f 1 [20] (.f 6 [20] (.f 2 [144] (.f 7 [149] (.f 3 [145] (.f 8 [150] (.f 4 [146] (.f 9 [151] (.f 5 [143, 147] (.f 10 [148, 152] (.w 11 [153] .fin)))))))))))))) .o))))))) .o))))) (.s .o (.s .o .o)))))))))) h (by kernel_rfl)
def W_canterref20_Board_Again (b : Option Pt) (s : T_u4b) (R : Rs.T [.agg [.int .u64, .int .u64], qb] → WP) : WP :=
 new (Ks.mk K_u4b s) fun n1 =>
 new [zu, zu] fun n2 =>
 call Tryz.prog N_canterref20_Board_lost [vp b] [qi] fun (r3 : Int) =>
 ite' (decide (r3 < (0:Int))) (
 st ⟨n2, 0⟩ [zu, zu] <|
 ld cr ⟨n2, 0⟩ fun (x4 : Int × Int) =>
 R (x4, false)) <|
 deref b fun q5 =>
 ld cl q5 fun (x6 : Sl) =>
 app 9 ⟨none, 0, 0⟩ x6 fun s7 =>
 drw <|
 ld K_u4b ⟨n1, 0⟩ fun (x8 : T_u4b) =>
 idx s7 r3 9 fun q9 =>
 so q9 8 [.bool false] <|
 chk ⟨n1, 0⟩ (Ks.mk K_u4b x8) <|
 idx s7 r3 9 fun q10 =>
 so q10 2 (Ks.mk K_u4b x8) <|
 deref b fun q11 =>
 st q11 [.sl s7] <|
 drw <|
 idx s7 r3 9 fun q12 =>
 idx s7 r3 9 fun q13 =>
 ld cu q12 fun (x14 : Int) =>
 lo cu q13 1 fun (x15 : Int) =>
 st ⟨n2, 0⟩ [.int .u64 x14, .int .u64 x15] <|
 ld cr ⟨n2, 0⟩ fun (x16 : Int × Int) =>
 R (x16, true)
theorem call_canterref20_Board_Again (b : Option Pt) (s : T_u4b) (R : Rs.T [.agg [.int .u64, .int .u64], qb] → WP) (w : World) (h : W_canterref20_Board_Again b s R w) : CW Tryz.prog N_canterref20_Board_Again [vp b, .agg (Ks.mk K_u4b s)] [.agg [.int .u64, .int .u64], qb] R w := cs Tryz.func62 (.s .o (.s .o (.s (.s .o (.s (.s .o .o) .o)) (.s .o (.s (.d (.f 0 [7] (.f 1 [6] (.f 2 [7] (.f 3 [6] (.f 4 [3] (.f 5 [18, 19] (.f 6 [23] (.w 7 [24] (.f 8 [20, 21] (.f 9 [25] (.w 10 [22, 26] .fin)))))))))))) (.s .o (.s (.d (.f 0 [7] (.f 1 [6] (.f 5 [7] (.f 6 [6] (.f 2 [31, 32] (.f 7 [36, 37] (.f 3 [33] (.f 8 [38] (.f 4 [34] (.f 9 [39] (.f 10 [35, 40] (.w 11 [4, 41] (.w 12 [] .fin)))))))))))))) .o))))))) h (by kernel_rfl)
def W_canterref20_Board_Flight (b : Option Pt) (R : Rs.T [qu] → WP) : WP :=
 loop [.int .u64, .int .i64] ((0:Int), (0:Int)) fun J1 (y2 : Int × Int) =>
 deref b fun q3 =>
 ld cl q3 fun (x4 : Sl) =>
 ite' (decide (y2.2 < ((x4.len : Nat) : Int))) (
 join cb (fun J5 =>
 deref b fun q7 =>
 ld cl q7 fun (x8 : Sl) =>
 idx x8 y2.2 9 fun q9 =>
 lo cb q9 7 fun (x10 : Bool) =>
 ite' (!x10) (
 deref b fun q11 =>
 ld cl q11 fun (x12 : Sl) =>
 idx x12 y2.2 9 fun q13 =>
 lo cb q13 8 fun (x14 : Bool) =>
 J5 (!x14)) <|
 J5 false) fun (y6 : Bool) =>
 ite' y6 (
 drw <|
 deref b fun q15 =>
 deref b fun q16 =>
 ld cl q15 fun (x17 : Sl) =>
 ld cl q16 fun (x18 : Sl) =>
 idx x17 y2.2 9 fun q19 =>
 idx x18 y2.2 9 fun q20 =>
 lo cu q19 1 fun (x21 : Int) =>
 ld cu q20 fun (x22 : Int) =>
 J1 ((IntKind.u64.wrap ((IntKind.u64.wrap (y2.1 + x21)) - x22)), (IntKind.i64.wrap (y2.2 + (1:Int))))) <|
 J1 (y2.1, (IntKind.i64.wrap (y2.2 + (1:Int))))) <|
 R y2.1
theorem call_canterref20_Board_Flight (b : Option Pt) (R : Rs.T [qu] → WP) (w : World) (h : W_canterref20_Board_Flight b R w) : CW Tryz.prog N_canterref20_Board_Flight [vp b] [qu] R w := cs Tryz.func56 (.s .o (.s .o (.s (.s .o (.b (.l [(3, qu), (4, qi)] (.s (.s .o (.s .o .o)) (.s (.b (.j [(33, qb)] .o (.s (.d (.f 0 [3] (.f 1 [0] (.f 5 [4] (.f 10 [0] (.f 14 [4] (.f 2 [35] (.f 11 [44] (.f 3 [36] (.f 12 [45] (.f 4 [37] (.f 13 [46] (.f 6 [38, 39] (.f 15 [47, 48] (.f 7 [40] (.f 16 [49] (.f 8 [41] (.f 17 [50] (.f 9 [34, 42] (.f 18 [43, 51] (.w 19 [52] .fin))))))))))))))))))))) .o))) .o))))) (.s .o .o)))) h (by kernel_rfl)
def W_canterref20_Board_Lose (b : Option Pt) (R : Rs.T [qu] → WP) : WP :=
 call Tryz.prog N_canterref20_Board_Flight [vp b] [qu] fun (r1 : Int) =>
 loop [.sl, .int .i64] (⟨none, 0, 0⟩, (0:Int)) fun J2 (y3 : Sl × Int) =>
 deref b fun q4 =>
 ld cl q4 fun (x5 : Sl) =>
 ite' (decide (y3.2 < ((x5.len : Nat) : Int))) (
 deref b fun q6 =>
 ld cl q6 fun (x7 : Sl) =>
 idx x7 y3.2 9 fun q8 =>
 ld K_u6b3 q8 fun (x9 : T_u6b3) =>
 new [zu, zu, zu, zu, zu, zu, .bool false, .bool false, .bool false] fun n10 =>
 st ⟨n10, 0⟩ (Ks.mk K_u6b3 x9) <|
 join [] (fun J11 =>
 ld cb ⟨n10, 8⟩ fun (x13 : Bool) =>
 ite' x13 (
 st ⟨n10, 8⟩ [.bool true] <|
 J11 ()) <|
 ld cb ⟨n10, 7⟩ fun (x14 : Bool) =>
 st ⟨n10, 8⟩ [.bool (!x14)] <|
 J11 ()) fun (y12 : Unit) =>
 ld K_u6b3 ⟨n10, 0⟩ fun (x15 : T_u6b3) =>
 new [.int .u64 x15.1, .int .u64 x15.2.1, .int .u64 x15.2.2.1, .int .u64 x15.2.2.2.1, .int .u64 x15.2.2.2.2.1, .int .u64 x15.2.2.2.2.2.1, .bool x15.2.2.2.2.2.2.1, .bool x15.2.2.2.2.2.2.2.1, .bool x15.2.2.2.2.2.2.2.2] fun n16 =>
 app 9 y3.1 ⟨some ⟨n16, 0⟩, 1, 1⟩ fun s17 =>
 J2 (s17, (IntKind.i64.wrap (y3.2 + (1:Int))))) <|
 deref b fun q18 =>
 st q18 [.sl y3.1] <|
 R r1
theorem call_canterref20_Board_Lose (b : Option Pt) (R : Rs.T [qu] → WP) (w : World) (h : W_canterref20_Board_Lose b R w) : CW Tryz.prog N_canterref20_Board_Lose [vp b] [qu] R w := cs Tryz.func70 (.s .o (.s .o (.s .o (.s (.s .o (.b (.l [(4, qs), (5, qi)] (.s (.s .o (.s .o .o)) (.s (.b (.s .o (.j [] .o .o))) .o))))) (.s .o (.s .o .o)))))) h (by kernel_rfl)
def W_canterref20_Board_Lost (b : Option Pt) (R : Rs.T [.agg [.int .u64, .int .u64], qb] → WP) : WP :=
 new [zu, zu] fun n1 =>
 call Tryz.prog N_canterref20_Board_lost [vp b] [qi] fun (r2 : Int) =>
 ite' (decide (r2 < (0:Int))) (
 st ⟨n1, 0⟩ [zu, zu] <|
 ld cr ⟨n1, 0⟩ fun (x3 : Int × Int) =>
 R (x3, false)) <|
 drw <|
 deref b fun q4 =>
 deref b fun q5 =>
 ld cl q4 fun (x6 : Sl) =>
 ld cl q5 fun (x7 : Sl) =>
 idx x6 r2 9 fun q8 =>
 idx x7 r2 9 fun q9 =>
 ld cu q8 fun (x10 : Int) =>
 lo cu q9 1 fun (x11 : Int) =>
 st ⟨n1, 0⟩ [.int .u64 x10, .int .u64 x11] <|
 ld cr ⟨n1, 0⟩ fun (x12 : Int × Int) =>
 R (x12, true)
theorem call_canterref20_Board_Lost (b : Option Pt) (R : Rs.T [.agg [.int .u64, .int .u64], qb] → WP) (w : World) (h : W_canterref20_Board_Lost b R w) : CW Tryz.prog N_canterref20_Board_Lost [vp b] [.agg [.int .u64, .int .u64], qb] R w := cs Tryz.func59 (.s .o (.s .o (.s (.s .o (.s (.s .o .o) .o)) (.s (.d (.f 0 [0] (.f 4 [4] (.f 8 [0] (.f 12 [4] (.f 1 [10] (.f 9 [18] (.f 2 [11] (.f 10 [19] (.f 3 [12] (.f 11 [20] (.f 5 [13, 14] (.f 13 [21, 22] (.f 6 [15] (.f 14 [23] (.f 7 [16] (.f 15 [24] (.f 16 [17, 25] (.w 17 [2, 26] (.w 18 [] .fin)))))))))))))))))))) .o)))) h (by kernel_rfl)
def W_canterref20_Board_Sent (b : Option Pt) (from' : Int) (to' : Int) (s : T_u4b) (R : Rs.T [qi] → WP) : WP :=
 new (Ks.mk K_u4b s) fun n1 =>
 deref b fun q2 =>
 lo cu q2 1 fun (x3 : Int) =>
 ite' ((from' != x3) || (decide (to' ≤ from'))) (
 R (1:Int)) <|
 deref b fun q4 =>
 ld cl q4 fun (x5 : Sl) =>
 ite' (decide (((x5.len : Nat) : Int) ≥ (4096:Int))) (
 R (5:Int)) <|
 drw <|
 ld K_u4b ⟨n1, 0⟩ fun (x6 : T_u4b) =>
 deref b fun q7 =>
 ld cl q7 fun (x8 : Sl) =>
 both (
 app 9 ⟨none, 0, 0⟩ x8 fun s9 =>
 chk ⟨n1, 0⟩ (Ks.mk K_u4b x6) <|
 new [.int .u64 from', .int .u64 to', .int .u64 x6.1, .int .u64 x6.2.1, .int .u64 x6.2.2.1, .int .u64 x6.2.2.2.1, .bool x6.2.2.2.2, .bool false, .bool false] fun n10 =>
 chk q7 (Ks.mk cl x8) <|
 app 9 s9 ⟨some ⟨n10, 0⟩, 1, 1⟩ fun s11 =>
 deref b fun q12 =>
 st q12 [.sl s11] <|
 deref b fun q13 =>
 so q13 1 [.int .u64 to'] <|
 R (0:Int)) <|
 new [.int .u64 from', .int .u64 to', .int .u64 x6.1, .int .u64 x6.2.1, .int .u64 x6.2.2.1, .int .u64 x6.2.2.2.1, .bool x6.2.2.2.2, .bool false, .bool false] fun n14 =>
 chk q7 (Ks.mk cl x8) <|
 app 9 ⟨none, 0, 0⟩ x8 fun s15 =>
 chk ⟨n1, 0⟩ (Ks.mk K_u4b x6) <|
 app 9 s15 ⟨some ⟨n14, 0⟩, 1, 1⟩ fun s16 =>
 deref b fun q17 =>
 st q17 [.sl s16] <|
 deref b fun q18 =>
 so q18 1 [.int .u64 to'] <|
 R (0:Int)
theorem call_canterref20_Board_Sent (b : Option Pt) (from' : Int) (to' : Int) (s : T_u4b) (R : Rs.T [qi] → WP) (w : World) (h : W_canterref20_Board_Sent b from' to' s R w) : CW Tryz.prog N_canterref20_Board_Sent [vp b, .lf (.int .u64 from'), .lf (.int .u64 to'), .agg (Ks.mk K_u4b s)] [qi] R w := cs Tryz.func64 (.s .o (.s (.s .o (.s (.s .o .o) .o)) (.s (.s .o (.s (.s .o .o) .o)) (.s (.d (.f 0 [0] (.f 1 [0] (.f 6 [1] (.f 7 [2] (.f 8 [7] (.f 2 [27] (.f 9 [32, 33, 34] (.f 3 [28] (.f 4 [29] (.wa 5 [30] (.w 10 [35] (.w 11 [31, 36] (.f 12 [26] (.f 13 [38] (.w 14 [37, 39] .fin))))) (.w 10 [35] (.w 5 [30] (.w 11 [31, 36] (.f 12 [26] (.f 13 [38] (.w 14 [37, 39] .fin))))))))))))))))) (.s .o (.s .o .o)))))) h (by kernel_rfl)
def W_canterref20_Board_lost (b : Option Pt) (R : Rs.T [qi] → WP) : WP :=
 loop ci (0:Int) fun J1 (y2 : Int) =>
 deref b fun q3 =>
 ld cl q3 fun (x4 : Sl) =>
 ite' (decide (y2 < ((x4.len : Nat) : Int))) (
 deref b fun q5 =>
 ld cl q5 fun (x6 : Sl) =>
 idx x6 y2 9 fun q7 =>
 lo cb q7 8 fun (x8 : Bool) =>
 ite' x8 (
 R y2) <|
 J1 (IntKind.i64.wrap (y2 + (1:Int)))) <|
 R (-1:Int)
theorem call_canterref20_Board_lost (b : Option Pt) (R : Rs.T [qi] → WP) (w : World) (h : W_canterref20_Board_lost b R w) : CW Tryz.prog N_canterref20_Board_lost [vp b] [qi] R w := cs Tryz.func109 (.s .o (.s (.s .o (.b (.l [(3, qi)] (.s (.s .o (.s .o .o)) (.s (.b (.s .o (.s (.s .o .o) .o))) .o))))) (.s .o .o))) h (by kernel_rfl)
def W_canterref20_NewSock (id : Int) (c : T_i4u2bi2) (R : Rs.T [qp] → WP) : WP :=
 new (Ks.mk K_i4u2bi2 c) fun n1 =>
 drw <|
 ld ci ⟨n1, 8⟩ fun (x2 : Int) =>
 ld ci ⟨n1, 7⟩ fun (x3 : Int) =>
 ld ci ⟨n1, 8⟩ fun (x4 : Int) =>
 call Tryz.prog N_canterref08_NewModel [.lf (.int .u64 (IntKind.u64.wrap (if x4 > (0:Int) then x4 else (0:Int))))] [qp] fun (r5 : Option Pt) =>
 chk ⟨n1, 7⟩ (Ks.mk ci x3) <|
 chk ⟨n1, 8⟩ (Ks.mk ci x2) <|
 new [.int .i64 id, .int .i64 x2, .int .i64 x3, .int .i64 (1073741824:Int), zu, zu, zu, .sl ⟨none, 0, 0⟩, zu, zu, zu, zu, zu, .bool false, zu, zu, zu, zu, zu, .bool false, .ptr r5, zu, zu] fun n6 =>
 R (some ⟨n6, 0⟩)
theorem call_canterref20_NewSock (id : Int) (c : T_i4u2bi2) (R : Rs.T [qp] → WP) (w : World) (h : W_canterref20_NewSock id c R w) : CW Tryz.prog N_canterref20_NewSock [vi id, .agg (Ks.mk K_i4u2bi2 c)] [qp] R w := cs Tryz.func24 (.s .o (.s (.d (.f 0 [0] (.f 1 [3] (.f 3 [3] (.f 5 [] (.f 6 [3] (.f 2 [6] (.f 4 [8] (.f 7 [11] (.f 8 [12] (.f 9 [13] (.w 10 [14] (.f 11 [5, 7, 9, 10, 15] (.w 12 [16] (.w 13 [17] .fin))))))))))))))) .o)) h (by kernel_rfl)
def W_canterref20_Plain  (R : Rs.T [.agg K_i4u2bi2] → WP) : WP :=
 new [zi, zi, zi, zi, zu, zu, .bool false, zi, zi] fun n1 =>
 st ⟨n1, 0⟩ [.int .i64 (3000:Int), .int .i64 (15000:Int), .int .i64 (100:Int), .int .i64 (50:Int), .int .u64 (10000000000:Int), zu, .bool false, .int .i64 (100000:Int), .int .i64 (1000:Int)] <|
 ld K_i4u2bi2 ⟨n1, 0⟩ fun (x2 : T_i4u2bi2) =>
 R x2
theorem call_canterref20_Plain  (R : Rs.T [.agg K_i4u2bi2] → WP) (w : World) (h : W_canterref20_Plain  R w) : CW Tryz.prog N_canterref20_Plain [] [.agg K_i4u2bi2] R w := cs Tryz.func9 (.s .o (.s .o .o)) h (by kernel_rfl)
def W_canterref20_Sock_Ack (d : Option Pt) (o : Int) (a : Int) (a' : Sl) (R : Rs.T [qi] → WP) : WP :=
 deref d fun q1 =>
 call Tryz.prog N_canterref20_Board_Ack [.lf (.ptr (some ⟨q1.b, q1.o + 7⟩)), vu a, .lf (.sl a')] [qs, qu, qi] fun (r2 : Sl × Int × Int) =>
 ite' (r2.2.2 != (0:Int)) (
 R r2.2.2) <|
 deref d fun q3 =>
 call Tryz.prog N_canterref04_Buffer_Acked [.lf (.ptr (some ⟨q3.b, q3.o + 3⟩)), vu a] [qi] fun (r4 : Int) =>
 loop ci (0:Int) fun J5 (y6 : Int) =>
 ite' (decide (y6 < ((r2.1.len : Nat) : Int))) (
 drw <|
 deref d fun q7 =>
 idx r2.1 y6 9 fun q8 =>
 idx r2.1 y6 9 fun q9 =>
 idx r2.1 y6 9 fun q10 =>
 lo cu q8 1 fun (x11 : Int) =>
 ld cu q9 fun (x12 : Int) =>
 lo K_u4b q10 2 fun (x13 : T_u4b) =>
 call Tryz.prog N_canterref08_Sampler_Acked [.lf (.ptr (some ⟨q7.b, q7.o + 9⟩)), vu o, .lf (.int .u64 (IntKind.u64.wrap (x11 - x12))), .agg (Ks.mk K_u4b x13)] [] fun (r14 : Unit) =>
 J5 (IntKind.i64.wrap (y6 + (1:Int)))) <|
 drw <|
 deref d fun q15 =>
 deref d fun q16 =>
 deref d fun q17 =>
 lo cp q15 20 fun (x18 : Option Pt) =>
 call Tryz.prog N_canterref20_Board_Flight [.lf (.ptr (some ⟨q17.b, q17.o + 7⟩))] [qu] fun (r19 : Int) =>
 ck q15 20 cp x18 <|
 call Tryz.prog N_canterref08_Sampler_Take [.lf (.ptr (some ⟨q16.b, q16.o + 9⟩)), vu o, vu r2.2.1, vu r19] [.agg K_u8b] fun (r20 : T_u8b) =>
 ck q15 20 cp x18 <|
 call Tryz.prog N_canterref20_Sock_Tso [vp d] [qi] fun (r21 : Int) =>
 ck q15 20 cp x18 <|
 call Tryz.prog N_canterref08_Model_Update [vp x18, .agg (Ks.mk K_u8b r20), .lf (.int .u64 (IntKind.u64.wrap r21))] [.agg K_i2u6b2] fun (r22 : T_i2u6b2) =>
 R (0:Int)
theorem call_canterref20_Sock_Ack (d : Option Pt) (o : Int) (a : Int) (a' : Sl) (R : Rs.T [qi] → WP) (w : World) (h : W_canterref20_Sock_Ack d o a a' R w) : CW Tryz.prog N_canterref20_Sock_Ack [vp d, vu o, vu a, .lf (.sl a')] [qi] R w := cs Tryz.func27 (.s .o (.s .o (.s (.s .o (.s (.s .o .o) .o)) (.s .o (.s (.s .o (.b (.l [(12, qi)] (.s (.s .o (.s .o .o)) (.s (.b (.d (.f 0 [0] (.f 3 [1] (.f 4 [9] (.f 5 [12] (.f 9 [9] (.f 10 [12] (.f 15 [9] (.f 16 [12] (.f 1 [37] (.f 6 [41, 42] (.f 11 [46, 47] (.f 17 [52, 53] (.f 2 [38] (.f 7 [43] (.f 12 [48] (.f 18 [54] (.f 8 [44] (.f 13 [49] (.f 19 [55] (.f 14 [45, 50] (.w 20 [39, 40, 51, 56] .fin))))))))))))))))))))))) .o))))) (.s (.d (.f 0 [0] (.f 4 [0] (.f 7 [1] (.f 8 [10] (.f 9 [0] (.f 14 [0] (.f 1 [58] (.f 5 [62] (.f 10 [67] (.f 2 [59] (.f 6 [63] (.f 11 [68] (.f 3 [60] (.w 12 [69] (.w 13 [64, 65, 66, 70] (.w 15 [72] (.f 16 [73] (.w 17 [61, 71, 74] .fin))))))))))))))))))) (.s .o .o))))))) h (by kernel_rfl)
def W_canterref20_Sock_Done (s : Option Pt) (n : Int) (R : Rs.T [qi] → WP) : WP :=
 join [] (fun J1 =>
 ite' (decide (n < (1:Int))) (
 R (1:Int)) <|
 deref s fun q3 =>
 lo cu q3 21 fun (x4 : Int) =>
 ite' (decide ((IntKind.u64.wrap n) > x4)) (
 R (1:Int)) <|
 J1 ()) fun (y2 : Unit) =>
 deref s fun q5 =>
 lo cu q5 21 fun (x6 : Int) =>
 deref s fun q7 =>
 so q7 21 [.int .u64 (IntKind.u64.wrap (x6 - (IntKind.u64.wrap n)))] <|
 R (0:Int)
theorem call_canterref20_Sock_Done (s : Option Pt) (n : Int) (R : Rs.T [qi] → WP) (w : World) (h : W_canterref20_Sock_Done s n R w) : CW Tryz.prog N_canterref20_Sock_Done [vp s, vi n] [qi] R w := cs Tryz.func29 (.s .o (.j [] (.s .o (.s (.s .o .o) .o)) (.s .o (.s .o .o)))) h (by kernel_rfl)
def W_canterref20_Sock_Emit (d : Option Pt) (o : Int) (R : Rs.T [.agg K_iuiub, qi] → WP) : WP :=
 new [zi, zu, zi, zu, .bool false] fun n1 =>
 deref d fun q2 =>
 call Tryz.prog N_canterref20_Board_Lost [.lf (.ptr (some ⟨q2.b, q2.o + 7⟩))] [.agg [.int .u64, .int .u64], qb] fun (r3 : (Int × Int) × Bool) =>
 new [zu, zu] fun n4 =>
 st ⟨n4, 0⟩ (Ks.mk cr r3.1) <|
 deref d fun q5 =>
 call Tryz.prog N_canterref20_Board_Flight [.lf (.ptr (some ⟨q5.b, q5.o + 7⟩))] [qu] fun (r6 : Int) =>
 join cb (fun J7 =>
 drw <|
 ite' (!r3.2) (
 deref d fun q9 =>
 deref d fun q10 =>
 lo cu q9 5 fun (x11 : Int) =>
 lo cu q10 6 fun (x12 : Int) =>
 J7 (x11 == x12)) <|
 J7 false) fun (y8 : Bool) =>
 ite' y8 (
 deref d fun q13 =>
 lo cp q13 20 fun (x14 : Option Pt) =>
 deref x14 fun q15 =>
 lo cu q15 25 fun (x16 : Int) =>
 ite' (decide (r6 < x16)) (
 deref d fun q17 =>
 call Tryz.prog N_canterref08_Sampler_Limit [.lf (.ptr (some ⟨q17.b, q17.o + 9⟩)), vu r6] [] fun (r18 : Unit) =>
 st ⟨n1, 0⟩ [zi, zu, zi, zu, .bool false] <|
 ld K_iuiub ⟨n1, 0⟩ fun (x19 : T_iuiub) =>
 R (x19, (7:Int))) <|
 st ⟨n1, 0⟩ [zi, zu, zi, zu, .bool false] <|
 ld K_iuiub ⟨n1, 0⟩ fun (x20 : T_iuiub) =>
 R (x20, (7:Int))) <|
 join cb (fun J21 =>
 drw <|
 deref d fun q23 =>
 lo cp q23 20 fun (x24 : Option Pt) =>
 deref x24 fun q25 =>
 lo cu q25 25 fun (x26 : Int) =>
 ite' (decide (r6 ≥ x26)) (
 J21 true) <|
 deref d fun q27 =>
 deref d fun q28 =>
 deref d fun q29 =>
 lo cu q27 21 fun (x30 : Int) =>
 lo cp q28 20 fun (x31 : Option Pt) =>
 lo ci q29 2 fun (x32 : Int) =>
 deref x31 fun q33 =>
 lo cu q33 24 fun (x34 : Int) =>
 call Tryz.prog N_canterref20_Sock_Tso [vp d] [qi] fun (r35 : Int) =>
 ck q33 24 cu x34 <|
 ck q29 2 ci x32 <|
 ck q28 20 cp x31 <|
 ck q27 21 cu x30 <|
 call Tryz.prog N_canterref01_Limit [vu x34, vi r35, vi x32] [qu] fun (r36 : Int) =>
 ck q27 21 cu x30 <|
 ite' (decide (x30 ≥ r36)) (
 J21 true) <|
 ite' (!r3.2) (
 deref d fun q37 =>
 lo cl q37 7 fun (x38 : Sl) =>
 J21 (decide (((x38.len : Nat) : Int) ≥ (4096:Int)))) <|
 J21 false) fun (y22 : Bool) =>
 ite' y22 (
 st ⟨n1, 0⟩ [zi, zu, zi, zu, .bool false] <|
 ld K_iuiub ⟨n1, 0⟩ fun (x39 : T_iuiub) =>
 R (x39, (5:Int))) <|
 deref d fun q40 =>
 call Tryz.prog N_canterref08_Sampler_Sent [.lf (.ptr (some ⟨q40.b, q40.o + 9⟩)), vu o, vu r6] [.agg K_u4b] fun (r41 : T_u4b) =>
 new [zu, zu, zu, zu, .bool false] fun n42 =>
 st ⟨n42, 0⟩ (Ks.mk K_u4b r41) <|
 join [] (fun J43 =>
 ite' r3.2 (
 drw <|
 ld K_u4b ⟨n42, 0⟩ fun (x45 : T_u4b) =>
 deref d fun q46 =>
 call Tryz.prog N_canterref20_Board_Again [.lf (.ptr (some ⟨q46.b, q46.o + 7⟩)), .agg (Ks.mk K_u4b x45)] [.agg [.int .u64, .int .u64], qb] fun (r47 : (Int × Int) × Bool) =>
 J43 ()) <|
 drw <|
 deref d fun q48 =>
 call Tryz.prog N_canterref20_Sock_Tso [vp d] [qi] fun (r49 : Int) =>
 call Tryz.prog N_canterref04_Buffer_Take [.lf (.ptr (some ⟨q48.b, q48.o + 3⟩)), vi r49] [.agg [.int .u64, .int .u64], qb] fun (r50 : (Int × Int) × Bool) =>
 st ⟨n4, 0⟩ (Ks.mk cr r50.1) <|
 drw <|
 ld K_u4b ⟨n42, 0⟩ fun (x51 : T_u4b) =>
 deref d fun q52 =>
 ld cu ⟨n4, 0⟩ fun (x53 : Int) =>
 ld cu ⟨n4, 1⟩ fun (x54 : Int) =>
 call Tryz.prog N_canterref20_Board_Sent [.lf (.ptr (some ⟨q52.b, q52.o + 7⟩)), vu x53, vu x54, .agg (Ks.mk K_u4b x51)] [qi] fun (r55 : Int) =>
 J43 ()) fun (y44 : Unit) =>
 ld cu ⟨n4, 1⟩ fun (x56 : Int) =>
 ld cu ⟨n4, 0⟩ fun (x57 : Int) =>
 drw <|
 deref d fun q58 =>
 ld cu ⟨n4, 0⟩ fun (x59 : Int) =>
 deref d fun q60 =>
 ld ci q58 fun (x61 : Int) =>
 lo cu q60 22 fun (x62 : Int) =>
 new [zi, zu, zi, zu, .bool false] fun n63 =>
 ck q60 22 cu x62 <|
 chk q58 (Ks.mk ci x61) <|
 chk ⟨n4, 0⟩ (Ks.mk cu x59) <|
 st ⟨n63, 0⟩ [.int .i64 x61, .int .u64 x59, .int .i64 (IntKind.i64.wrap (IntKind.u64.wrap (x56 - x57))), .int .u64 (if x62 > o then x62 else o), .bool r3.2] <|
 drw <|
 ld cu ⟨n63, 3⟩ fun (x64 : Int) =>
 deref d fun q65 =>
 lo cp q65 20 fun (x66 : Option Pt) =>
 deref x66 fun q67 =>
 lo cu q67 24 fun (x68 : Int) =>
 call Tryz.prog N_canterref01_Delay [.lf (.int .i64 (IntKind.i64.wrap (IntKind.u64.wrap (x56 - x57)))), vu x68] [qu] fun (r69 : Int) =>
 chk ⟨n63, 3⟩ (Ks.mk cu x64) <|
 call Tryz.prog N_canterref01_Add [vu x64, vu r69] [qu] fun (r70 : Int) =>
 deref d fun q71 =>
 so q71 22 [.int .u64 r70] <|
 deref d fun q72 =>
 lo cu q72 21 fun (x73 : Int) =>
 call Tryz.prog N_canterref01_Add [vu x73, .lf (.int .u64 (IntKind.u64.wrap (IntKind.i64.wrap (IntKind.u64.wrap (x56 - x57)))))] [qu] fun (r74 : Int) =>
 deref d fun q75 =>
 so q75 21 [.int .u64 r74] <|
 ld K_iuiub ⟨n63, 0⟩ fun (x76 : T_iuiub) =>
 st ⟨n1, 0⟩ (Ks.mk K_iuiub x76) <|
 ld K_iuiub ⟨n1, 0⟩ fun (x77 : T_iuiub) =>
 R (x77, (0:Int))
theorem call_canterref20_Sock_Emit (d : Option Pt) (o : Int) (R : Rs.T [.agg K_iuiub, qi] → WP) (w : World) (h : W_canterref20_Sock_Emit d o R w) : CW Tryz.prog N_canterref20_Sock_Emit [vp d, vu o] [.agg K_iuiub, qi] R w := cs Tryz.func26 (.s .o (.s .o (.s .o (.s (.j [(37, qb)] (.d (.f 0 [7] (.f 1 [23] (.f 2 [24] (.f 3 [0, 25] (.f 8 [0, 25] (.f 4 [25, 26] (.f 9 [25, 31] (.f 5 [25, 27] (.f 10 [25, 32] (.f 6 [25, 28] (.f 11 [25, 33] (.f 7 [25, 29] (.f 12 [25, 34] (.f 13 [25, 30, 35] (.f 14 [25, 36] .fin)))))))))))))))) (.s (.s (.s .o (.s .o .o)) (.s .o .o)) .o)) (.s (.j [(95, qb)] (.d (.f 0 [8] (.f 1 [0] (.f 2 [54] (.f 3 [55] (.f 4 [56] (.f 5 [57] (.f 6 [58] (.f 7 [59] (.f 8 [53, 60] (.f 9 [61] (.f 10 [0, 62] (.f 14 [0, 62] (.f 21 [0, 62] (.f 23 [0, 62] (.f 11 [62, 63] (.f 15 [62, 67] (.f 24 [62, 76] (.f 12 [62, 64] (.f 16 [62, 68] (.f 25 [62, 77] (.f 13 [62, 65] (.f 17 [62, 69] (.f 26 [62, 78] (.f 18 [62, 70] (.f 19 [62, 71] (.f 20 [62, 72] (.w 22 [62, 74] (.w 27 [62, 73, 75, 79] (.f 28 [62, 66, 80] (.f 29 [62, 81] (.f 30 [82] (.f 31 [7, 83] (.f 32 [83, 84] (.f 33 [83, 85] (.f 34 [0, 86] (.f 35 [86, 87] (.f 36 [86, 88] (.f 37 [86, 89] (.f 38 [86, 90] (.f 39 [86, 91] (.f 40 [86, 92] (.f 41 [83, 86, 93] (.f 42 [83, 94] .fin)))))))))))))))))))))))))))))))))))))))))))) (.s (.s .o .o) .o)) (.s .o (.j [] (.s .o (.s (.d (.f 0 [0] (.f 3 [9] (.f 1 [104] (.f 2 [105] (.w 4 [106, 107] .fin)))))) (.s (.d (.f 0 [0] (.f 3 [0] (.f 1 [110] (.f 2 [111] (.w 4 [113] (.w 5 [112, 114] (.f 6 [115] (.f 7 [109] (.f 8 [109] (.w 9 [6, 116] .fin))))))))))) (.d (.f 0 [0] (.f 3 [6] (.f 5 [6] (.f 7 [9] (.f 1 [118] (.f 4 [121] (.f 6 [123] (.f 2 [119] (.w 8 [120, 122, 124, 125] .fin))))))))))))) (.s .o (.s (.d (.f 0 [0] (.f 4 [6] (.f 6 [10] (.f 7 [1] (.f 8 [0] (.f 13 [7] (.f 1 [133] (.f 5 [137] (.f 9 [141] (.f 2 [134] (.f 10 [142] (.f 3 [135] (.f 11 [143] (.f 12 [140, 144] (.f 14 [136, 138, 139, 145, 146] (.w 15 [] (.w 16 [11, 147] .fin)))))))))))))))))) (.s (.d (.f 0 [0] (.f 1 [11] (.f 3 [10] (.f 4 [0] (.f 2 [149] (.f 5 [152] (.f 6 [153] (.f 7 [154] (.f 8 [155] (.f 9 [156] (.f 10 [157] (.w 11 [151, 158] (.w 12 [150, 159] (.f 13 [148] (.f 14 [161] (.w 15 [160, 162] .fin))))))))))))))))) (.s .o (.s .o .o)))))))))))) h (by kernel_rfl)
def W_canterref20_Sock_Lose (s : Option Pt) (now : Int) (R : Rs.T [] → WP) : WP :=
 deref s fun q1 =>
 call Tryz.prog N_canterref20_Board_Lose [.lf (.ptr (some ⟨q1.b, q1.o + 7⟩))] [qu] fun (r2 : Int) =>
 drw <|
 deref s fun q3 =>
 deref s fun q4 =>
 deref s fun q5 =>
 lo cp q3 20 fun (x6 : Option Pt) =>
 call Tryz.prog N_canterref20_Board_Flight [.lf (.ptr (some ⟨q5.b, q5.o + 7⟩))] [qu] fun (r7 : Int) =>
 ck q3 20 cp x6 <|
 call Tryz.prog N_canterref08_Sampler_Take [.lf (.ptr (some ⟨q4.b, q4.o + 9⟩)), vu now, vu r2, vu r7] [.agg K_u8b] fun (r8 : T_u8b) =>
 ck q3 20 cp x6 <|
 call Tryz.prog N_canterref20_Sock_Tso [vp s] [qi] fun (r9 : Int) =>
 ck q3 20 cp x6 <|
 call Tryz.prog N_canterref08_Model_Update [vp x6, .agg (Ks.mk K_u8b r8), .lf (.int .u64 (IntKind.u64.wrap r9))] [.agg K_i2u6b2] fun (r10 : T_i2u6b2) =>
 R ()
theorem call_canterref20_Sock_Lose (s : Option Pt) (now : Int) (R : Rs.T [] → WP) (w : World) (h : W_canterref20_Sock_Lose s now R w) : CW Tryz.prog N_canterref20_Sock_Lose [vp s, vu now] [] R w := cs Tryz.func28 (.s .o (.d (.f 0 [0] (.f 4 [0] (.f 7 [1] (.f 8 [4] (.f 9 [0] (.f 14 [0] (.f 1 [9] (.f 5 [13] (.f 10 [18] (.f 2 [10] (.f 6 [14] (.f 11 [19] (.f 3 [11] (.w 12 [20] (.w 13 [15, 16, 17, 21] (.w 15 [23] (.f 16 [24] (.w 17 [12, 22, 25] .fin)))))))))))))))))))) h (by kernel_rfl)
def W_canterref20_Sock_Tso (s : Option Pt) (R : Rs.T [qi] → WP) : WP :=
 drw <|
 deref s fun q1 =>
 deref s fun q2 =>
 lo cp q1 20 fun (x3 : Option Pt) =>
 lo ci q2 1 fun (x4 : Int) =>
 deref x3 fun q5 =>
 lo cu q5 24 fun (x6 : Int) =>
 call Tryz.prog N_canterref01_Size [vu x6, vi x4] [qi] fun (r7 : Int) =>
 R r7
theorem call_canterref20_Sock_Tso (s : Option Pt) (R : Rs.T [qi] → WP) (w : World) (h : W_canterref20_Sock_Tso s R w) : CW Tryz.prog N_canterref20_Sock_Tso [vp s] [qi] R w := cs Tryz.func57 (.s .o (.s (.d (.f 0 [0] (.f 7 [0] (.f 1 [3] (.f 8 [10] (.f 2 [4] (.f 9 [11] (.f 3 [5] (.f 10 [12] (.f 4 [6] (.f 5 [7] (.f 6 [8] (.w 11 [9, 13] (.w 12 [14] .fin)))))))))))))) .o)) h (by kernel_rfl)
def W_canterref20_within (p : T_u6b3) (l : Sl) (R : Rs.T [qb] → WP) : WP :=
 new (Ks.mk K_u6b3 p) fun n1 =>
 loop ci (0:Int) fun J2 (y3 : Int) =>
 ite' (decide (y3 < ((l.len : Nat) : Int))) (
 drw <|
 idx l y3 2 fun q4 =>
 ld cu ⟨n1, 0⟩ fun (x5 : Int) =>
 ld cu q4 fun (x6 : Int) =>
 ite' (decide (x6 ≤ x5)) (
 idx l y3 2 fun q7 =>
 ld cu ⟨n1, 1⟩ fun (x8 : Int) =>
 lo cu q7 1 fun (x9 : Int) =>
 ite' (decide (x9 ≥ x8)) (
 R true) <|
 J2 (IntKind.i64.wrap (y3 + (1:Int)))) <|
 J2 (IntKind.i64.wrap (y3 + (1:Int)))) <|
 R false
theorem call_canterref20_within (p : T_u6b3) (l : Sl) (R : Rs.T [qb] → WP) (w : World) (h : W_canterref20_within p l R w) : CW Tryz.prog N_canterref20_within [.agg (Ks.mk K_u6b3 p), .lf (.sl l)] [qb] R w := cs Tryz.func110 (.s .o (.s (.s .o (.b (.l [(5, qi)] (.s (.s .o (.s .o .o)) (.s (.b (.s (.d (.f 0 [1] (.f 1 [5] (.f 5 [2] (.f 2 [12, 13] (.f 6 [17] (.f 3 [14] (.f 4 [15] (.f 7 [16, 18] (.f 8 [19] (.f 9 [1, 20] (.f 10 [5, 20] (.f 14 [2, 20] (.f 11 [20, 21, 22] (.f 15 [20, 26] (.f 12 [20, 23] (.f 13 [20, 24] (.f 16 [20, 25, 27] (.f 17 [20, 28] .fin))))))))))))))))))) (.s (.s .o .o) .o))) .o))))) (.s .o .o))) h (by kernel_rfl)
def W_cycle_Cycle_Gain (c : Option Pt) (R : Rs.T [qu] → WP) : WP :=
 ite' (!c.isNone) (
 deref c fun q1 =>
 ld ci q1 fun (x2 : Int) =>
 ite' (x2 == (0:Int)) (
 R (320:Int)) <|
 ite' (x2 == (1:Int)) (
 R (192:Int)) <|
 R (256:Int)) <|
 R (256:Int)
theorem call_cycle_Cycle_Gain (c : Option Pt) (R : Rs.T [qu] → WP) (w : World) (h : W_cycle_Cycle_Gain c R w) : CW Tryz.prog N_cycle_Cycle_Gain [vp c] [qu] R w := cs Tryz.func124 (.s .o (.s (.s .o (.s (.s .o (.b (.s .o (.s (.s .o .o) (.s .o (.s (.s .o .o) .o)))))) .o)) (.s .o .o))) h (by kernel_rfl)
def W_cycle_Cycle_Phase (c : Option Pt) (R : Rs.T [qi] → WP) : WP :=
 ite' c.isNone (
 R (0:Int)) <|
 deref c fun q1 =>
 ld ci q1 fun (x2 : Int) =>
 R x2
theorem call_cycle_Cycle_Phase (c : Option Pt) (R : Rs.T [qi] → WP) (w : World) (h : W_cycle_Cycle_Phase c R w) : CW Tryz.prog N_cycle_Cycle_Phase [vp c] [qi] R w := cs Tryz.func94 (.s .o (.s (.s .o (.s (.s .o .o) .o)) (.s .o .o))) h (by kernel_rfl)
def W_cycle_Cycle_Start (c : Option Pt) (now : Int) (phase : Int) (R : Rs.T [] → WP) : WP :=
 ite' (!c.isNone) (
 deref c fun q1 =>
 st q1 [.int .i64 ((IntKind.i64.wrap ((phase.tmod (8:Int)) + (8:Int))).tmod (8:Int))] <|
 deref c fun q2 =>
 so q2 1 [.int .u64 now] <|
 R ()) <|
 R ()
theorem call_cycle_Cycle_Start (c : Option Pt) (now : Int) (phase : Int) (R : Rs.T [] → WP) (w : World) (h : W_cycle_Cycle_Start c now phase R w) : CW Tryz.prog N_cycle_Cycle_Start [vp c, vu now, vi phase] [] R w := cs Tryz.func162 (.s .o (.s .o .o)) h (by kernel_rfl)
def W_cycle_Cycle_Update (c : Option Pt) (now : Int) (rtt : Int) (lost : Int) (flight : Int) (up : Int) (one : Int) (R : Rs.T [qb] → WP) : WP :=
 loop cb false fun J1 (y2 : Bool) =>
 join [] (fun J3 =>
 ite' (!c.isNone) (
 deref c fun q5 =>
 lo cu q5 1 fun (x6 : Int) =>
 call Tryz.prog N_sat_Sub [vu now, vu x6] [qu] fun (r7 : Int) =>
 call Tryz.prog N_cycle_Cycle_ends [vp c, .lf (.bool (decide (r7 > rtt))), vu lost, vu flight, vu up, vu one] [qb] fun (r8 : Bool) =>
 ite' r8 (
 J3 ()) <|
 R y2) <|
 R y2) fun (y4 : Unit) =>
 deref c fun q9 =>
 ld ci q9 fun (x10 : Int) =>
 call Tryz.prog N_cycle_Cycle_Start [vp c, vu now, .lf (.int .i64 (IntKind.i64.wrap (x10 + (1:Int))))] [] fun (r11 : Unit) =>
 R true
theorem call_cycle_Cycle_Update (c : Option Pt) (now : Int) (rtt : Int) (lost : Int) (flight : Int) (up : Int) (one : Int) (R : Rs.T [qb] → WP) (w : World) (h : W_cycle_Cycle_Update c now rtt lost flight up one R w) : CW Tryz.prog N_cycle_Cycle_Update [vp c, vu now, vu rtt, vu lost, vu flight, vu up, vu one] [qb] R w := cs Tryz.func131 (.s .o (.s .o (.s .o (.s (.b (.l [(15, qb)] (.j [] (.s .o (.s .o .o)) (.b (.s .o (.s .o .o)))))) (.s .o .o))))) h (by kernel_rfl)
def W_cycle_Cycle_ends (c : Option Pt) (over : Bool) (lost : Int) (flight : Int) (up : Int) (one : Int) (R : Rs.T [qb] → WP) : WP :=
 deref c fun q1 =>
 ld ci q1 fun (x2 : Int) =>
 ite' (x2 == (0:Int)) (
 R (over && ((decide (lost > (0:Int))) || (decide (flight ≥ up))))) <|
 ite' (x2 == (1:Int)) (
 R (over || (decide (flight ≤ one)))) <|
 R over
theorem call_cycle_Cycle_ends (c : Option Pt) (over : Bool) (lost : Int) (flight : Int) (up : Int) (one : Int) (R : Rs.T [qb] → WP) (w : World) (h : W_cycle_Cycle_ends c over lost flight up one R w) : CW Tryz.prog N_cycle_Cycle_ends [vp c, .lf (.bool over), vu lost, vu flight, vu up, vu one] [qb] R w := cs Tryz.func161 (.s .o (.s (.s .o (.b (.s .o (.s (.s .o .o) (.s .o (.s (.s .o .o) .o)))))) (.s .o .o))) h (by kernel_rfl)
def W_cycle_New  (R : Rs.T [qp] → WP) : WP :=
 new [zi, zu] fun n1 =>
 R (some ⟨n1, 0⟩)
theorem call_cycle_New  (R : Rs.T [qp] → WP) (w : World) (h : W_cycle_New  R w) : CW Tryz.prog N_cycle_New [] [qp] R w := cs Tryz.func77 (.s .o (.s .o .o)) h (by kernel_rfl)
def W_delay_Of (size : Int) (rate : Int) (R : Rs.T [qu] → WP) : WP :=
 ite' ((decide (size < (1:Int))) || (rate == (18446744073709551615:Int))) (
 R (0:Int)) <|
 call Tryz.prog N_wide_MulDiv [.lf (.int .u64 (IntKind.u64.wrap size)), .lf (.int .u64 (1000000000:Int)), vu rate] [qu] fun (r1 : Int) =>
 R (if (1000000000:Int) < r1 then (1000000000:Int) else r1)
theorem call_delay_Of (size : Int) (rate : Int) (R : Rs.T [qu] → WP) (w : World) (h : W_delay_Of size rate R w) : CW Tryz.prog N_delay_Of [vi size, vu rate] [qu] R w := cs Tryz.func45 (.s .o (.s (.s .o (.s (.s .o .o) .o)) (.s .o .o))) h (by kernel_rfl)
def W_math_bits_Add64 (x y c : Int) (R : Rs.T [qu, qu] → WP) : WP :=
 req ((0 ≤ x ∧ 0 ≤ y) ∧ 0 ≤ c ∧ c ≤ 1) <|
 R ((x + y + c) % 18446744073709551616, (x + y + c) / 18446744073709551616)
theorem call_math_bits_Add64 (x y c : Int) (R : Rs.T [qu, qu] → WP) (w : World) (h : W_math_bits_Add64 x y c R w) :
   CallX Tryz.prog N_math_bits_Add64 ([vu x, vu y, vu c].map V1.enc) w fun v w' => ∃ x, v = (retTV (Rs.mk [qu, qu] x)).enc ∧ R x w' := by
 obtain ⟨hp, h⟩ := h
 exact callX_extern Tryz.func88 (by kernel_rfl) (by kernel_rfl) (by kernel_rfl) (x := add64Entry) (by kernel_rfl) (run_add64 x y c hp.1.1 hp.1.2 hp.2.1 hp.2.2 w) ⟨_, rfl, h⟩
def W_math_bits_Mul64 (x : Int) (y : Int) (R : Rs.T [qu, qu] → WP) : WP :=
 req (0 ≤ (32:Int)) <|
 req (0 ≤ (32:Int)) <|
 req (0 ≤ (32:Int)) <|
 req (0 ≤ (32:Int)) <|
 req (0 ≤ (32:Int)) <|
 R ((IntKind.u64.wrap ((IntKind.u64.wrap ((IntKind.u64.wrap ((x.fdiv (2 ^ min (32:Int).toNat IntKind.u64.bits)) * (y.fdiv (2 ^ min (32:Int).toNat IntKind.u64.bits)))) + ((IntKind.u64.wrap ((IntKind.u64.wrap ((x.fdiv (2 ^ min (32:Int).toNat IntKind.u64.bits)) * (IntKind.u64.wrap (BitVec.ofInt IntKind.u64.bits y &&& BitVec.ofInt IntKind.u64.bits (4294967295:Int)).toNat))) + ((IntKind.u64.wrap ((IntKind.u64.wrap (BitVec.ofInt IntKind.u64.bits x &&& BitVec.ofInt IntKind.u64.bits (4294967295:Int)).toNat) * (IntKind.u64.wrap (BitVec.ofInt IntKind.u64.bits y &&& BitVec.ofInt IntKind.u64.bits (4294967295:Int)).toNat))).fdiv (2 ^ min (32:Int).toNat IntKind.u64.bits)))).fdiv (2 ^ min (32:Int).toNat IntKind.u64.bits)))) + ((IntKind.u64.wrap ((IntKind.u64.wrap (BitVec.ofInt IntKind.u64.bits (IntKind.u64.wrap ((IntKind.u64.wrap ((x.fdiv (2 ^ min (32:Int).toNat IntKind.u64.bits)) * (IntKind.u64.wrap (BitVec.ofInt IntKind.u64.bits y &&& BitVec.ofInt IntKind.u64.bits (4294967295:Int)).toNat))) + ((IntKind.u64.wrap ((IntKind.u64.wrap (BitVec.ofInt IntKind.u64.bits x &&& BitVec.ofInt IntKind.u64.bits (4294967295:Int)).toNat) * (IntKind.u64.wrap (BitVec.ofInt IntKind.u64.bits y &&& BitVec.ofInt IntKind.u64.bits (4294967295:Int)).toNat))).fdiv (2 ^ min (32:Int).toNat IntKind.u64.bits)))) &&& BitVec.ofInt IntKind.u64.bits (4294967295:Int)).toNat) + (IntKind.u64.wrap ((IntKind.u64.wrap (BitVec.ofInt IntKind.u64.bits x &&& BitVec.ofInt IntKind.u64.bits (4294967295:Int)).toNat) * (y.fdiv (2 ^ min (32:Int).toNat IntKind.u64.bits)))))).fdiv (2 ^ min (32:Int).toNat IntKind.u64.bits)))), (IntKind.u64.wrap (x * y)))
theorem call_math_bits_Mul64 (x : Int) (y : Int) (R : Rs.T [qu, qu] → WP) (w : World) (h : W_math_bits_Mul64 x y R w) : CW Tryz.prog N_math_bits_Mul64 [vu x, vu y] [qu, qu] R w := cs Tryz.func155 (.s .o (.s .o (.s .o (.s .o (.s .o (.s .o (.s .o (.s .o (.s .o (.s .o (.s .o (.s .o .o)))))))))))) h (by kernel_rfl)
def W_pipe_New  (R : Rs.T [qp] → WP) : WP :=
 new [zu, zi, .bool false] fun n1 =>
 R (some ⟨n1, 0⟩)
theorem call_pipe_New  (R : Rs.T [qp] → WP) (w : World) (h : W_pipe_New  R w) : CW Tryz.prog N_pipe_New [] [qp] R w := cs Tryz.func76 (.s .o (.s .o .o)) h (by kernel_rfl)
def W_pipe_Pipe_Full (p : Option Pt) (R : Rs.T [qb] → WP) : WP :=
 ite' (!p.isNone) (
 deref p fun q1 =>
 lo cb q1 2 fun (x2 : Bool) =>
 R x2) <|
 R false
theorem call_pipe_Pipe_Full (p : Option Pt) (R : Rs.T [qb] → WP) (w : World) (h : W_pipe_Pipe_Full p R w) : CW Tryz.prog N_pipe_Pipe_Full [vp p] [qb] R w := cs Tryz.func95 (.s .o (.s .o .o)) h (by kernel_rfl)
def W_pipe_Pipe_Update (p : Option Pt) (start : Bool) (limited : Bool) (bw : Int) (R : Rs.T [qb] → WP) : WP :=
 join [] (fun J1 =>
 loop [] () fun J3 (y4 : Unit) =>
 join [] (fun J5 =>
 ite' (!p.isNone) (
 deref p fun q7 =>
 lo cb q7 2 fun (x8 : Bool) =>
 ite' (((!x8) && start) && (!limited)) (
 J5 ()) <|
 J1 ()) <|
 J1 ()) fun (y6 : Unit) =>
 deref p fun q9 =>
 ld cu q9 fun (x10 : Int) =>
 call Tryz.prog N_wide_MulDiv [vu x10, .lf (.int .u64 (320:Int)), .lf (.int .u64 (256:Int))] [qu] fun (r11 : Int) =>
 ite' (decide (bw ≥ r11)) (
 deref p fun q12 =>
 st q12 [.int .u64 bw] <|
 deref p fun q13 =>
 so q13 1 [zi] <|
 J1 ()) <|
 deref p fun q14 =>
 lo ci q14 1 fun (x15 : Int) =>
 deref p fun q16 =>
 so q16 1 [.int .i64 (IntKind.i64.wrap (x15 + (1:Int)))] <|
 deref p fun q17 =>
 lo ci q17 1 fun (x18 : Int) =>
 deref p fun q19 =>
 so q19 2 [.bool (x18 == (3:Int))] <|
 J1 ()) fun (y2 : Unit) =>
 call Tryz.prog N_pipe_Pipe_Full [vp p] [qb] fun (r20 : Bool) =>
 R r20
theorem call_pipe_Pipe_Update (p : Option Pt) (start : Bool) (limited : Bool) (bw : Int) (R : Rs.T [qb] → WP) (w : World) (h : W_pipe_Pipe_Update p start limited bw R w) : CW Tryz.prog N_pipe_Pipe_Update [vp p, .lf (.bool start), .lf (.bool limited), vu bw] [qb] R w := cs Tryz.func133 (.s .o (.s .o (.j [] (.b (.l [] (.j [] (.s .o (.s .o .o)) (.b (.s (.s .o (.s (.s .o .o) .o)) (.s .o (.s .o .o))))))) (.s .o .o)))) h (by kernel_rfl)
def W_policer_New  (R : Rs.T [qp] → WP) : WP :=
 new [.bool false, .bool false, zu, zi, zu, zu, zu, zu] fun n1 =>
 R (some ⟨n1, 0⟩)
theorem call_policer_New  (R : Rs.T [qp] → WP) (w : World) (h : W_policer_New  R w) : CW Tryz.prog N_policer_New [] [qp] R w := cs Tryz.func79 (.s .o (.s .o .o)) h (by kernel_rfl)
def W_policer_Policer_Update (d : Option Pt) (o : Bool) (a : T_u8b) (R : Rs.T [] → WP) : WP :=
 new (Ks.mk K_u8b a) fun n1 =>
 loop [] () fun J2 (y3 : Unit) =>
 ite' (!d.isNone) (
 drw <|
 deref d fun q4 =>
 ld cu ⟨n1, 6⟩ fun (x5 : Int) =>
 lo cu q4 4 fun (x6 : Int) =>
 call Tryz.prog N_sat_Add [vu x6, vu x5] [qu] fun (r7 : Int) =>
 deref d fun q8 =>
 so q8 4 [.int .u64 r7] <|
 join cb (fun J9 =>
 deref d fun q11 =>
 ld cb q11 fun (x12 : Bool) =>
 ite' (!x12) (
 deref d fun q13 =>
 lo cb q13 1 fun (x14 : Bool) =>
 J9 (!x14)) <|
 J9 false) fun (y10 : Bool) =>
 ite' y10 (
 ld cu ⟨n1, 6⟩ fun (x15 : Int) =>
 ite' (decide (x15 > (0:Int))) (
 ld K_u8b ⟨n1, 0⟩ fun (x16 : T_u8b) =>
 call Tryz.prog N_policer_Policer_begin [vp d, .agg (Ks.mk K_u8b x16)] [] fun (r17 : Unit) =>
 R ()) <|
 R ()) <|
 join [] (fun J18 =>
 deref d fun q20 =>
 ld cb q20 fun (x21 : Bool) =>
 ite' (!x21) (
 ld cb ⟨n1, 8⟩ fun (x22 : Bool) =>
 ite' x22 (
 call Tryz.prog N_policer_Policer_leave [vp d] [] fun (r23 : Unit) =>
 R ()) <|
 J18 ()) <|
 J18 ()) fun (y19 : Unit) =>
 join [] (fun J24 =>
 ite' o (
 deref d fun q26 =>
 lo ci q26 3 fun (x27 : Int) =>
 deref d fun q28 =>
 so q28 3 [.int .i64 (IntKind.i64.wrap (x27 + (1:Int)))] <|
 J24 ()) <|
 J24 ()) fun (y25 : Unit) =>
 deref d fun q29 =>
 ld cb q29 fun (x30 : Bool) =>
 ite' x30 (
 join cb (fun J31 =>
 ite' o (
 deref d fun q33 =>
 lo ci q33 3 fun (x34 : Int) =>
 J31 (x34 == (48:Int))) <|
 J31 false) fun (y32 : Bool) =>
 ite' y32 (
 call Tryz.prog N_policer_Policer_leave [vp d] [] fun (r35 : Unit) =>
 deref d fun q36 =>
 so q36 3 [zi] <|
 R ()) <|
 R ()) <|
 deref d fun q37 =>
 lo ci q37 3 fun (x38 : Int) =>
 ite' (decide (x38 > (16:Int))) (
 call Tryz.prog N_policer_Policer_leave [vp d] [] fun (r39 : Unit) =>
 R ()) <|
 join cb (fun J40 =>
 deref d fun q42 =>
 lo ci q42 3 fun (x43 : Int) =>
 ite' (decide (x43 ≥ (4:Int))) (
 ld cu ⟨n1, 6⟩ fun (x44 : Int) =>
 J40 (decide (x44 > (0:Int)))) <|
 J40 false) fun (y41 : Bool) =>
 ite' y41 (
 ld K_u8b ⟨n1, 0⟩ fun (x45 : T_u8b) =>
 call Tryz.prog N_policer_Policer_end [vp d, .agg (Ks.mk K_u8b x45)] [] fun (r46 : Unit) =>
 R ()) <|
 R ()) <|
 R ()
theorem call_policer_Policer_Update (d : Option Pt) (o : Bool) (a : T_u8b) (R : Rs.T [] → WP) (w : World) (h : W_policer_Policer_Update d o a R w) : CW Tryz.prog N_policer_Policer_Update [vp d, .lf (.bool o), .agg (Ks.mk K_u8b a)] [] R w := cs Tryz.func129 (.s .o (.s .o (.b (.l [] (.s (.s .o (.s .o .o)) (.b (.s (.d (.f 0 [0] (.f 1 [0] (.f 5 [5] (.f 2 [9] (.f 6 [13] (.f 3 [10] (.f 4 [11] (.w 7 [12, 14] (.f 8 [8] (.f 9 [16] (.w 10 [15, 17] .fin)))))))))))) (.s (.j [(29, qb)] .o (.s (.s (.s .o (.s .o .o)) .o) .o)) (.j [] (.s .o (.s (.s .o .o) .o)) (.j [] (.s .o (.s .o .o)) (.s (.b (.s .o (.s (.j [(67, qb)] .o (.s (.s .o .o) .o)) (.s .o (.s .o (.j [(81, qb)] .o (.s .o .o))))))) .o))))))))))) h (by kernel_rfl)
def W_policer_Policer_Use (p : Option Pt) (R : Rs.T [qu, qb] → WP) : WP :=
 join [] (fun J1 =>
 ite' p.isNone (
 R ((0:Int), false)) <|
 deref p fun q3 =>
 ld cb q3 fun (x4 : Bool) =>
 ite' (!x4) (
 R ((0:Int), false)) <|
 J1 ()) fun (y2 : Unit) =>
 deref p fun q5 =>
 lo cu q5 2 fun (x6 : Int) =>
 R (x6, true)
theorem call_policer_Policer_Use (p : Option Pt) (R : Rs.T [qu, qb] → WP) (w : World) (h : W_policer_Policer_Use p R w) : CW Tryz.prog N_policer_Policer_Use [vp p] [qu, qb] R w := cs Tryz.func122 (.s .o (.j [] (.s .o (.s (.s .o .o) .o)) (.s .o .o))) h (by kernel_rfl)
def W_policer_Policer_begin (p : Option Pt) (s : T_u8b) (R : Rs.T [] → WP) : WP :=
 new (Ks.mk K_u8b s) fun n1 =>
 drw <|
 ld cu ⟨n1, 0⟩ fun (x2 : Int) =>
 ld cu ⟨n1, 1⟩ fun (x3 : Int) =>
 deref p fun q4 =>
 lo cu q4 4 fun (x5 : Int) =>
 deref p fun q6 =>
 so q6 1 [.bool true] <|
 chk ⟨n1, 1⟩ (Ks.mk cu x3) <|
 chk ⟨n1, 0⟩ (Ks.mk cu x2) <|
 deref p fun q7 =>
 so q7 3 [zi] <|
 chk ⟨n1, 1⟩ (Ks.mk cu x3) <|
 chk ⟨n1, 0⟩ (Ks.mk cu x2) <|
 deref p fun q8 =>
 so q8 5 [.int .u64 x2, .int .u64 x3, .int .u64 x5] <|
 R ()
theorem call_policer_Policer_begin (p : Option Pt) (s : T_u8b) (R : Rs.T [] → WP) (w : World) (h : W_policer_Policer_begin p s R w) : CW Tryz.prog N_policer_Policer_begin [vp p, .agg (Ks.mk K_u8b s)] [] R w := cs Tryz.func157 (.s .o (.d (.f 0 [0] (.f 1 [0] (.f 2 [0] (.f 3 [3] (.f 5 [3] (.f 7 [0] (.f 4 [7] (.f 6 [9] (.f 8 [11] (.f 9 [12] (.f 10 [13] (.f 11 [8, 10, 14] (.f 12 [4] (.f 13 [16] (.w 14 [17] (.f 15 [5] (.f 16 [18] (.w 17 [19] (.f 18 [6] (.f 19 [20] (.w 20 [15, 21] .fin))))))))))))))))))))))) h (by kernel_rfl)
def W_policer_Policer_end (d : Option Pt) (o : T_u8b) (R : Rs.T [] → WP) : WP :=
 new (Ks.mk K_u8b o) fun n1 =>
 ld K_u8b ⟨n1, 0⟩ fun (x2 : T_u8b) =>
 call Tryz.prog N_policer_Policer_measured [vp d, .agg (Ks.mk K_u8b x2)] [qu, qb] fun (r3 : Int × Bool) =>
 ite' (!r3.2) (
 R ()) <|
 join cb (fun J4 =>
 drw <|
 deref d fun q6 =>
 lo cu q6 2 fun (x7 : Int) =>
 ite' (decide (x7 > (0:Int))) (
 deref d fun q8 =>
 deref d fun q9 =>
 lo cu q8 2 fun (x10 : Int) =>
 lo cu q9 2 fun (x11 : Int) =>
 call Tryz.prog N_policer_apart [vu x10, vu r3.1] [qu] fun (r12 : Int) =>
 ck q9 2 cu x11 <|
 J4 (decide (r12 ≤ (IntKind.u64.wrap (x11.tdiv (8:Int)))))) <|
 J4 false) fun (y5 : Bool) =>
 ite' y5 (
 drw <|
 deref d fun q13 =>
 deref d fun q14 =>
 lo cu q13 2 fun (x15 : Int) =>
 lo cu q14 2 fun (x16 : Int) =>
 deref d fun q17 =>
 so q17 2 [.int .u64 (IntKind.u64.wrap ((IntKind.u64.wrap ((IntKind.u64.wrap (x15.tdiv (2:Int))) + (IntKind.u64.wrap (r3.1.tdiv (2:Int))))) + (IntKind.u64.wrap (BitVec.ofInt IntKind.u64.bits (IntKind.u64.wrap (BitVec.ofInt IntKind.u64.bits x16 &&& BitVec.ofInt IntKind.u64.bits r3.1).toNat) &&& BitVec.ofInt IntKind.u64.bits (1:Int)).toNat)))] <|
 deref d fun q18 =>
 st q18 [.bool true] <|
 deref d fun q19 =>
 so q19 3 [zi] <|
 R ()) <|
 deref d fun q20 =>
 so q20 2 [.int .u64 r3.1] <|
 ld K_u8b ⟨n1, 0⟩ fun (x21 : T_u8b) =>
 call Tryz.prog N_policer_Policer_begin [vp d, .agg (Ks.mk K_u8b x21)] [] fun (r22 : Unit) =>
 R ()
theorem call_policer_Policer_end (d : Option Pt) (o : T_u8b) (R : Rs.T [] → WP) (w : World) (h : W_policer_Policer_end d o R w) : CW Tryz.prog N_policer_Policer_end [vp d, .agg (Ks.mk K_u8b o)] [] R w := cs Tryz.func159 (.s .o (.s .o (.b (.s .o (.s .o (.j [(22, qb)] (.d (.f 0 [0] (.f 1 [23] (.f 2 [24] (.f 3 [25] (.f 4 [26] (.f 5 [27] (.f 6 [0, 28] (.f 10 [4, 28] (.f 12 [0, 28] (.f 7 [28, 29] (.f 13 [28, 35] (.f 8 [28, 30] (.f 14 [28, 36] (.f 9 [28, 31] (.f 15 [28, 37] (.f 16 [28, 38] (.w 11 [28, 32, 33] (.f 17 [28, 34, 39] (.f 18 [28, 40] (.w 19 [41] .fin))))))))))))))))))))) (.s (.s (.d (.f 0 [0] (.f 1 [0] (.f 6 [4] (.f 9 [0] (.f 13 [4] (.f 2 [43] (.f 7 [48] (.f 10 [51] (.f 3 [44] (.f 11 [52] (.f 4 [45] (.f 12 [53] (.f 5 [46] (.f 14 [54, 55] (.f 8 [47, 49] (.f 15 [56] (.f 16 [50, 57] (.f 17 [42] (.f 18 [59] (.w 19 [58, 60] .fin))))))))))))))))))))) .o) (.s .o .o)))))))) h (by kernel_rfl)
def W_policer_Policer_leave (p : Option Pt) (R : Rs.T [] → WP) : WP :=
 deref p fun q1 =>
 st q1 [.bool false] <|
 deref p fun q2 =>
 so q2 1 [.bool false] <|
 deref p fun q3 =>
 so q3 2 [zu] <|
 R ()
theorem call_policer_Policer_leave (p : Option Pt) (R : Rs.T [] → WP) (w : World) (h : W_policer_Policer_leave p R w) : CW Tryz.prog N_policer_Policer_leave [vp p] [] R w := cs Tryz.func158 .o h (by kernel_rfl)
def W_policer_Policer_measured (p : Option Pt) (s : T_u8b) (R : Rs.T [qu, qb] → WP) : WP :=
 new (Ks.mk K_u8b s) fun n1 =>
 drw <|
 ld cu ⟨n1, 1⟩ fun (x2 : Int) =>
 deref p fun q3 =>
 deref p fun q4 =>
 deref p fun q5 =>
 ld cu ⟨n1, 0⟩ fun (x6 : Int) =>
 deref p fun q7 =>
 lo cu q4 4 fun (x8 : Int) =>
 lo cu q3 6 fun (x9 : Int) =>
 lo cu q5 7 fun (x10 : Int) =>
 lo cu q7 5 fun (x11 : Int) =>
 call Tryz.prog N_sat_Sub [vu x2, vu x9] [qu] fun (r12 : Int) =>
 ck q7 5 cu x11 <|
 ck q5 7 cu x10 <|
 ck q4 4 cu x8 <|
 chk ⟨n1, 0⟩ (Ks.mk cu x6) <|
 call Tryz.prog N_sat_Sub [vu x8, vu x10] [qu] fun (r13 : Int) =>
 ck q7 5 cu x11 <|
 chk ⟨n1, 0⟩ (Ks.mk cu x6) <|
 call Tryz.prog N_sat_Sub [vu x6, vu x11] [qu] fun (r14 : Int) =>
 ite' ((r12 == (0:Int)) || (r14 == (0:Int))) (
 R ((0:Int), false)) <|
 call Tryz.prog N_wide_MulDiv [vu r12, .lf (.int .u64 (50:Int)), .lf (.int .u64 (256:Int))] [qu] fun (r15 : Int) =>
 ite' (decide (r13 < r15)) (
 R ((0:Int), false)) <|
 call Tryz.prog N_wide_MulDiv [vu r12, .lf (.int .u64 (1000000000:Int)), vu r14] [qu] fun (r16 : Int) =>
 R (r16, true)
theorem call_policer_Policer_measured (p : Option Pt) (s : T_u8b) (R : Rs.T [qu, qb] → WP) (w : World) (h : W_policer_Policer_measured p s R w) : CW Tryz.prog N_policer_Policer_measured [vp p, .agg (Ks.mk K_u8b s)] [qu, qb] R w := cs Tryz.func171 (.s .o (.s (.d (.f 0 [3] (.f 2 [0] (.f 8 [0] (.f 12 [0] (.f 18 [3] (.f 20 [0] (.f 1 [9] (.f 3 [11] (.f 9 [17] (.f 13 [21] (.f 19 [27] (.f 21 [29] (.f 4 [12] (.f 10 [18] (.f 14 [22] (.f 22 [30] (.f 5 [13] (.f 11 [19] (.f 15 [23] (.f 23 [31] (.f 6 [14] (.f 16 [24] (.f 24 [32] (.w 7 [10, 15] (.w 17 [20, 25] (.w 25 [28, 33] (.w 26 [16] (.w 27 [26] (.w 28 [34] .fin)))))))))))))))))))))))))))))) (.s (.s .o (.s (.s .o .o) .o)) (.s .o .o)))) h (by kernel_rfl)
def W_policer_apart (a : Int) (b : Int) (R : Rs.T [qu] → WP) : WP :=
 R (IntKind.u64.wrap ((if b > a then b else a) - (if b < a then b else a)))
theorem call_policer_apart (a : Int) (b : Int) (R : Rs.T [qu] → WP) (w : World) (h : W_policer_apart a b R w) : CW Tryz.prog N_policer_apart [vu a, vu b] [qu] R w := cs Tryz.func172 (.s .o (.s .o .o)) h (by kernel_rfl)
def W_probe_New  (R : Rs.T [qp] → WP) : WP :=
 new [zu, zu, .bool false, zu, .bool false] fun n1 =>
 R (some ⟨n1, 0⟩)
theorem call_probe_New  (R : Rs.T [qp] → WP) (w : World) (h : W_probe_New  R w) : CW Tryz.prog N_probe_New [] [qp] R w := cs Tryz.func78 (.s .o (.s .o .o)) h (by kernel_rfl)
def W_probe_Probe_Best (p : Option Pt) (R : Rs.T [qu] → WP) : WP :=
 ite' p.isNone (
 R (0:Int)) <|
 deref p fun q1 =>
 ld cu q1 fun (x2 : Int) =>
 R x2
theorem call_probe_Probe_Best (p : Option Pt) (R : Rs.T [qu] → WP) (w : World) (h : W_probe_Probe_Best p R w) : CW Tryz.prog N_probe_Probe_Best [vp p] [qu] R w := cs Tryz.func91 (.s .o (.s (.s .o (.s (.s .o .o) .o)) (.s .o .o))) h (by kernel_rfl)
def W_probe_Probe_Update (d : Option Pt) (o : Int) (a : Int) (a' : Bool) (a'' : Int) (a''' : Int) (R : Rs.T [qb, qb] → WP) : WP :=
 loop [.bool, .bool] (false, false) fun J1 (y2 : Bool × Bool) =>
 ite' (!d.isNone) (
 join cb (fun J3 =>
 deref d fun q5 =>
 ld cu q5 fun (x6 : Int) =>
 ite' (decide (x6 > (0:Int))) (
 deref d fun q7 =>
 lo cu q7 1 fun (x8 : Int) =>
 call Tryz.prog N_sat_Add [vu x8, .lf (.int .u64 (10000000000:Int))] [qu] fun (r9 : Int) =>
 J3 (decide (o > r9))) <|
 J3 false) fun (y4 : Bool) =>
 join [] (fun J10 =>
 join cb (fun J12 =>
 ite' (decide (a > (0:Int))) (
 deref d fun q14 =>
 ld cu q14 fun (x15 : Int) =>
 ite' (x15 == (0:Int)) (
 J12 true) <|
 deref d fun q16 =>
 ld cu q16 fun (x17 : Int) =>
 J12 ((decide (a ≤ x17)) || y4)) <|
 J12 false) fun (y13 : Bool) =>
 ite' y13 (
 deref d fun q18 =>
 st q18 [.int .u64 a] <|
 deref d fun q19 =>
 so q19 1 [.int .u64 o] <|
 J10 ()) <|
 J10 ()) fun (y11 : Unit) =>
 join cb (fun J20 =>
 ite' y4 (
 deref d fun q22 =>
 lo cb q22 2 fun (x23 : Bool) =>
 J20 (!x23)) <|
 J20 false) fun (y21 : Bool) =>
 ite' y21 (
 deref d fun q24 =>
 so q24 2 [.bool true] <|
 deref d fun q25 =>
 so q25 3 [zu] <|
 deref d fun q26 =>
 so q26 4 [.bool false] <|
 R (true, y2.2)) <|
 deref d fun q27 =>
 lo cb q27 2 fun (x28 : Bool) =>
 ite' x28 (
 call Tryz.prog N_probe_Probe_leaves [vp d, vu o, .lf (.bool a'), .lf (.int .u64 a''), .lf (.int .u64 a''')] [qb] fun (r29 : Bool) =>
 R (y2.1, r29)) <|
 R (y2.1, false)) <|
 R (y2.1, y2.2)
theorem call_probe_Probe_Update (d : Option Pt) (o : Int) (a : Int) (a' : Bool) (a'' : Int) (a''' : Int) (R : Rs.T [qb, qb] → WP) (w : World) (h : W_probe_Probe_Update d o a a' a'' a''' R w) : CW Tryz.prog N_probe_Probe_Update [vp d, vu o, vu a, .lf (.bool a'), .lf (.int .u64 a''), .lf (.int .u64 a''')] [qb, qb] R w := cs Tryz.func165 (.s .o (.s .o (.s .o (.s (.b (.l [(14, qb), (15, qb)] (.s (.s .o (.s .o .o)) (.b (.j [(16, qb)] .o (.j [] (.j [(52, qb)] .o (.s .o .o)) (.s (.j [(68, qb)] .o (.s (.s .o (.s .o .o)) .o)) (.s .o .o)))))))) (.s .o .o))))) h (by kernel_rfl)
def W_probe_Probe_leaves (p : Option Pt) (now : Int) (start : Bool) (flight : Int) (floor : Int) (R : Rs.T [qb] → WP) : WP :=
 deref p fun q1 =>
 lo cu q1 3 fun (x2 : Int) =>
 ite' (x2 == (0:Int)) (
 ite' (decide (flight ≤ floor)) (
 call Tryz.prog N_sat_Add [vu now, .lf (.int .u64 (200000000:Int))] [qu] fun (r3 : Int) =>
 deref p fun q4 =>
 so q4 3 [.int .u64 r3] <|
 deref p fun q5 =>
 so q5 4 [.bool false] <|
 R false) <|
 R false) <|
 deref p fun q6 =>
 lo cb q6 4 fun (x7 : Bool) =>
 deref p fun q8 =>
 so q8 4 [.bool (x7 || start)] <|
 join [] (fun J9 =>
 deref p fun q11 =>
 lo cb q11 4 fun (x12 : Bool) =>
 ite' (!x12) (
 R false) <|
 deref p fun q13 =>
 lo cu q13 3 fun (x14 : Int) =>
 ite' (decide (now ≤ x14)) (
 R false) <|
 J9 ()) fun (y10 : Unit) =>
 deref p fun q15 =>
 so q15 1 [.int .u64 now] <|
 deref p fun q16 =>
 so q16 2 [.bool false] <|
 R true
theorem call_probe_Probe_leaves (p : Option Pt) (now : Int) (start : Bool) (flight : Int) (floor : Int) (R : Rs.T [qb] → WP) (w : World) (h : W_probe_Probe_leaves p now start flight floor R w) : CW Tryz.prog N_probe_Probe_leaves [vp p, vu now, .lf (.bool start), vu flight, vu floor] [qb] R w := cs Tryz.func177 (.s .o (.s (.s .o (.s (.s (.s .o (.s .o .o)) (.s .o .o)) .o)) (.s .o (.j [] (.s .o (.s (.s .o .o) .o)) (.s .o (.s .o .o)))))) h (by kernel_rfl)
def W_rounds_New  (R : Rs.T [qp] → WP) : WP :=
 new [zu, zu] fun n1 =>
 R (some ⟨n1, 0⟩)
theorem call_rounds_New  (R : Rs.T [qp] → WP) (w : World) (h : W_rounds_New  R w) : CW Tryz.prog N_rounds_New [] [qp] R w := cs Tryz.func75 (.s .o (.s .o .o)) h (by kernel_rfl)
def W_rounds_Rounds_Count (r : Option Pt) (R : Rs.T [qu] → WP) : WP :=
 ite' r.isNone (
 R (0:Int)) <|
 deref r fun q1 =>
 ld cu q1 fun (x2 : Int) =>
 R x2
theorem call_rounds_Rounds_Count (r : Option Pt) (R : Rs.T [qu] → WP) (w : World) (h : W_rounds_Rounds_Count r R w) : CW Tryz.prog N_rounds_Rounds_Count [vp r] [qu] R w := cs Tryz.func93 (.s .o (.s (.s .o (.s (.s .o .o) .o)) (.s .o .o))) h (by kernel_rfl)
def W_rounds_Rounds_Update (r : Option Pt) (s : T_u8b) (R : Rs.T [qb] → WP) : WP :=
 new (Ks.mk K_u8b s) fun n1 =>
 loop cb false fun J2 (y3 : Bool) =>
 join [] (fun J4 =>
 ite' (!r.isNone) (
 ld cu ⟨n1, 5⟩ fun (x6 : Int) =>
 ite' (decide (x6 > (0:Int))) (
 J4 ()) <|
 R y3) <|
 R y3) fun (y5 : Unit) =>
 drw <|
 ld cu ⟨n1, 2⟩ fun (x7 : Int) =>
 deref r fun q8 =>
 lo cu q8 1 fun (x9 : Int) =>
 ite' (decide (x7 < x9)) (
 R y3) <|
 ld cu ⟨n1, 1⟩ fun (x10 : Int) =>
 deref r fun q11 =>
 so q11 1 [.int .u64 x10] <|
 deref r fun q12 =>
 ld cu q12 fun (x13 : Int) =>
 deref r fun q14 =>
 st q14 [.int .u64 (IntKind.u64.wrap (x13 + (1:Int)))] <|
 R true
theorem call_rounds_Rounds_Update (r : Option Pt) (s : T_u8b) (R : Rs.T [qb] → WP) (w : World) (h : W_rounds_Rounds_Update r s R w) : CW Tryz.prog N_rounds_Rounds_Update [vp r, .agg (Ks.mk K_u8b s)] [qb] R w := cs Tryz.func128 (.s .o (.s .o (.s .o (.s (.b (.l [(5, qb)] (.j [] (.s .o (.s .o .o)) (.b (.s (.s (.d (.f 0 [3] (.f 2 [0] (.f 1 [13] (.f 3 [15] (.f 4 [16] (.f 5 [17] (.f 6 [14, 18] .fin)))))))) (.s .o .o)) (.s .o (.s .o .o))))))) (.s .o .o))))) h (by kernel_rfl)
def W_sampler_New  (R : Rs.T [qp] → WP) : WP :=
 new [zu, zu, zu, zu, .bool false, zu, zu, zu, .bool false, zu, zu] fun n1 =>
 R (some ⟨n1, 0⟩)
theorem call_sampler_New  (R : Rs.T [qp] → WP) (w : World) (h : W_sampler_New  R w) : CW Tryz.prog N_sampler_New [] [qp] R w := cs Tryz.func36 (.s .o (.s .o .o)) h (by kernel_rfl)
def W_sampler_Sampler_Acked (d : Option Pt) (o : Int) (a : Int) (a' : T_u4b) (R : Rs.T [] → WP) : WP :=
 new (Ks.mk K_u4b a') fun n1 =>
 ite' d.isNone (
 R ()) <|
 deref d fun q2 =>
 ld cu q2 fun (x3 : Int) =>
 call Tryz.prog N_sat_Add [vu x3, vu a] [qu] fun (r4 : Int) =>
 deref d fun q5 =>
 st q5 [.int .u64 r4] <|
 deref d fun q6 =>
 so q6 1 [.int .u64 o] <|
 join [] (fun J7 =>
 drw <|
 deref d fun q9 =>
 deref d fun q10 =>
 ld cu q9 fun (x11 : Int) =>
 lo cu q10 3 fun (x12 : Int) =>
 ite' (decide (x11 > x12)) (
 deref d fun q13 =>
 so q13 3 [zu] <|
 J7 ()) <|
 J7 ()) fun (y8 : Unit) =>
 deref d fun q14 =>
 lo cu q14 5 fun (x15 : Int) =>
 call Tryz.prog N_sat_Add [vu x15, vu a] [qu] fun (r16 : Int) =>
 deref d fun q17 =>
 so q17 5 [.int .u64 r16] <|
 join [] (fun J18 =>
 join cb (fun J20 =>
 drw <|
 deref d fun q22 =>
 lo cb q22 4 fun (x23 : Bool) =>
 ite' (!x23) (
 J20 true) <|
 ld cu ⟨n1, 1⟩ fun (x24 : Int) =>
 deref d fun q25 =>
 lo cu q25 6 fun (x26 : Int) =>
 J20 (decide (x24 ≥ x26))) fun (y21 : Bool) =>
 ite' y21 (
 drw <|
 ld cu ⟨n1, 1⟩ fun (x27 : Int) =>
 ld cu ⟨n1, 2⟩ fun (x28 : Int) =>
 ld cb ⟨n1, 4⟩ fun (x29 : Bool) =>
 deref d fun q30 =>
 so q30 6 [.int .u64 x27] <|
 chk ⟨n1, 4⟩ (Ks.mk cb x29) <|
 chk ⟨n1, 2⟩ (Ks.mk cu x28) <|
 deref d fun q31 =>
 so q31 7 [.int .u64 x28] <|
 chk ⟨n1, 4⟩ (Ks.mk cb x29) <|
 deref d fun q32 =>
 so q32 8 [.bool x29] <|
 drw <|
 ld cu ⟨n1, 0⟩ fun (x33 : Int) =>
 ld cu ⟨n1, 3⟩ fun (x34 : Int) =>
 ld cu ⟨n1, 0⟩ fun (x35 : Int) =>
 call Tryz.prog N_sat_Sub [vu x33, vu x34] [qu] fun (r36 : Int) =>
 chk ⟨n1, 0⟩ (Ks.mk cu x35) <|
 call Tryz.prog N_sat_Sub [vu o, vu x35] [qu] fun (r37 : Int) =>
 deref d fun q38 =>
 so q38 9 [.int .u64 r36] <|
 deref d fun q39 =>
 so q39 10 [.int .u64 r37] <|
 ld cu ⟨n1, 0⟩ fun (x40 : Int) =>
 deref d fun q41 =>
 so q41 2 [.int .u64 x40] <|
 J18 ()) <|
 J18 ()) fun (y19 : Unit) =>
 deref d fun q42 =>
 so q42 4 [.bool true] <|
 R ()
theorem call_sampler_Sampler_Acked (d : Option Pt) (o : Int) (a : Int) (a' : T_u4b) (R : Rs.T [] → WP) (w : World) (h : W_sampler_Sampler_Acked d o a a' R w) : CW Tryz.prog N_sampler_Sampler_Acked [vp d, vu o, vu a, .agg (Ks.mk K_u4b a')] [] R w := cs Tryz.func49 (.s .o (.s (.s .o (.s .o .o)) (.s .o (.j [] (.s (.d (.f 0 [0] (.f 4 [0] (.f 1 [23] (.f 5 [27] (.f 2 [24] (.f 6 [28] (.f 3 [25] (.f 7 [29] (.f 8 [26, 30] .fin)))))))))) (.s .o .o)) (.s .o (.j [] (.j [(61, qb)] (.d (.f 0 [0] (.f 1 [46] (.f 2 [47] (.f 3 [48] (.f 4 [49] (.f 5 [50] (.f 6 [51] (.f 7 [7, 52] (.f 9 [0, 52] (.f 8 [52, 53] (.f 10 [52, 55] (.f 11 [52, 56] (.f 12 [52, 57] (.f 13 [52, 58] (.f 14 [52, 54, 59] (.f 15 [52, 60] .fin))))))))))))))))) (.s (.s (.d (.f 0 [0] (.f 1 [0] (.f 2 [0] (.f 3 [7] (.f 5 [7] (.f 7 [7] (.f 4 [65] (.f 6 [67] (.f 8 [69] (.f 9 [62] (.f 10 [71] (.f 11 [72] (.w 12 [66, 73] (.f 13 [63] (.f 14 [74] (.f 15 [75] (.w 16 [68, 76] (.f 17 [64] (.f 18 [77] (.f 19 [78] (.w 20 [70, 79] .fin)))))))))))))))))))))) (.s (.d (.f 0 [0] (.f 1 [0] (.f 2 [7] (.f 4 [7] (.f 7 [1] (.f 8 [7] (.f 3 [82] (.f 5 [84] (.f 9 [88] (.w 6 [83, 85] (.w 10 [87, 89] (.f 11 [80] (.f 12 [91] (.f 13 [92] (.w 14 [86, 93] (.f 15 [81] (.f 16 [94] (.f 17 [95] (.w 18 [90, 96] .fin)))))))))))))))))))) .o)) .o)) .o)))))) h (by kernel_rfl)
def W_sampler_Sampler_Limit (s : Option Pt) (flight : Int) (R : Rs.T [] → WP) : WP :=
 ite' (!s.isNone) (
 deref s fun q1 =>
 ld cu q1 fun (x2 : Int) =>
 call Tryz.prog N_sat_Add [vu x2, vu flight] [qu] fun (r3 : Int) =>
 deref s fun q4 =>
 so q4 3 [.int .u64 (if r3 > (1:Int) then r3 else (1:Int))] <|
 R ()) <|
 R ()
theorem call_sampler_Sampler_Limit (s : Option Pt) (flight : Int) (R : Rs.T [] → WP) (w : World) (h : W_sampler_Sampler_Limit s flight R w) : CW Tryz.prog N_sampler_Sampler_Limit [vp s, vu flight] [] R w := cs Tryz.func83 (.s .o (.s .o .o)) h (by kernel_rfl)
def W_sampler_Sampler_Sent (s : Option Pt) (now : Int) (flight : Int) (R : Rs.T [.agg K_u4b] → WP) : WP :=
 new [zu, zu, zu, zu, .bool false] fun n1 =>
 ite' s.isNone (
 st ⟨n1, 0⟩ [zu, zu, zu, zu, .bool false] <|
 ld K_u4b ⟨n1, 0⟩ fun (x2 : T_u4b) =>
 R x2) <|
 join [] (fun J3 =>
 ite' (flight == (0:Int)) (
 deref s fun q5 =>
 so q5 2 [.int .u64 now] <|
 deref s fun q6 =>
 so q6 1 [.int .u64 now] <|
 J3 ()) <|
 J3 ()) fun (y4 : Unit) =>
 drw <|
 deref s fun q7 =>
 deref s fun q8 =>
 deref s fun q9 =>
 deref s fun q10 =>
 ld cu q7 fun (x11 : Int) =>
 lo cu q8 1 fun (x12 : Int) =>
 lo cu q9 2 fun (x13 : Int) =>
 lo cu q10 3 fun (x14 : Int) =>
 st ⟨n1, 0⟩ [.int .u64 now, .int .u64 x11, .int .u64 x12, .int .u64 x13, .bool (x14 != (0:Int))] <|
 ld K_u4b ⟨n1, 0⟩ fun (x15 : T_u4b) =>
 R x15
theorem call_sampler_Sampler_Sent (s : Option Pt) (now : Int) (flight : Int) (R : Rs.T [.agg K_u4b] → WP) (w : World) (h : W_sampler_Sampler_Sent s now flight R w) : CW Tryz.prog N_sampler_Sampler_Sent [vp s, vu now, vu flight] [.agg K_u4b] R w := cs Tryz.func40 (.s .o (.s (.s .o (.s (.s .o .o) .o)) (.j [] (.s .o (.s .o .o)) (.s (.d (.f 0 [1] (.f 1 [0] (.f 5 [0] (.f 9 [0] (.f 13 [0] (.f 2 [21] (.f 6 [25] (.f 10 [29] (.f 14 [33] (.f 3 [22] (.f 7 [26] (.f 11 [30] (.f 15 [34] (.f 4 [23] (.f 8 [27] (.f 12 [31] (.f 16 [35] (.f 17 [36] (.f 18 [20, 24, 28, 32, 37] (.w 19 [6, 38] .fin))))))))))))))))))))) .o)))) h (by kernel_rfl)
def W_sampler_Sampler_Take (s : Option Pt) (now : Int) (lost : Int) (flight : Int) (R : Rs.T [.agg K_u8b] → WP) : WP :=
 new [zu, zu, zu, zu, zu, zu, zu, zu, .bool false] fun n1 =>
 ite' s.isNone (
 st ⟨n1, 0⟩ [zu, zu, zu, zu, zu, zu, zu, zu, .bool false] <|
 ld K_u8b ⟨n1, 0⟩ fun (x2 : T_u8b) =>
 R x2) <|
 deref s fun q3 =>
 ld cu q3 fun (x4 : Int) =>
 new [zu, zu, zu, zu, zu, zu, zu, zu, .bool false] fun n5 =>
 st ⟨n5, 0⟩ [.int .u64 now, .int .u64 x4, zu, zu, zu, zu, .int .u64 lost, .int .u64 flight, .bool false] <|
 join [] (fun J6 =>
 deref s fun q8 =>
 lo K_bu3bu2 q8 4 fun (x9 : T_bu3bu2) =>
 new [.bool false, zu, zu, zu, .bool false, zu, zu] fun n10 =>
 st ⟨n10, 0⟩ (Ks.mk K_bu3bu2 x9) <|
 ld cb ⟨n10, 0⟩ fun (x11 : Bool) =>
 ite' x11 (
 drw <|
 ld cu ⟨n10, 1⟩ fun (x12 : Int) =>
 ld cu ⟨n10, 2⟩ fun (x13 : Int) =>
 ld cb ⟨n10, 4⟩ fun (x14 : Bool) =>
 ld cu ⟨n10, 6⟩ fun (x15 : Int) =>
 st ⟨n5, 5⟩ [.int .u64 x12] <|
 chk ⟨n10, 6⟩ (Ks.mk cu x15) <|
 chk ⟨n10, 4⟩ (Ks.mk cb x14) <|
 chk ⟨n10, 2⟩ (Ks.mk cu x13) <|
 st ⟨n5, 2⟩ [.int .u64 x13] <|
 chk ⟨n10, 6⟩ (Ks.mk cu x15) <|
 chk ⟨n10, 4⟩ (Ks.mk cb x14) <|
 st ⟨n5, 8⟩ [.bool x14] <|
 chk ⟨n10, 6⟩ (Ks.mk cu x15) <|
 st ⟨n5, 4⟩ [.int .u64 x15] <|
 drw <|
 ld cu ⟨n10, 5⟩ fun (x16 : Int) =>
 ld cu ⟨n10, 3⟩ fun (x17 : Int) =>
 call Tryz.prog N_sat_Sub [vu now, vu x17] [qu] fun (r18 : Int) =>
 chk ⟨n10, 5⟩ (Ks.mk cu x16) <|
 new [.int .u64 x16, .int .u64 r18] fun n19 =>
 call Tryz.prog N_sampler_longest [.lf (.sl ⟨some ⟨n19, 0⟩, 2, 2⟩)] [qu] fun (r20 : Int) =>
 st ⟨n5, 3⟩ [.int .u64 r20] <|
 J6 ()) <|
 J6 ()) fun (y7 : Unit) =>
 deref s fun q21 =>
 so q21 4 [.bool false, zu, zu, zu, .bool false, zu, zu] <|
 ld K_u8b ⟨n5, 0⟩ fun (x22 : T_u8b) =>
 st ⟨n1, 0⟩ (Ks.mk K_u8b x22) <|
 ld K_u8b ⟨n1, 0⟩ fun (x23 : T_u8b) =>
 R x23
theorem call_sampler_Sampler_Take (s : Option Pt) (now : Int) (lost : Int) (flight : Int) (R : Rs.T [.agg K_u8b] → WP) (w : World) (h : W_sampler_Sampler_Take s now lost flight R w) : CW Tryz.prog N_sampler_Sampler_Take [vp s, vu now, vu lost, vu flight] [.agg K_u8b] R w := cs Tryz.func102 (.s .o (.s (.s .o (.s (.s .o .o) .o)) (.s .o (.j [] (.s .o (.s .o (.s (.s (.d (.f 0 [10] (.f 2 [10] (.f 4 [10] (.f 6 [10] (.f 1 [28] (.f 3 [30] (.f 5 [32] (.f 7 [34] (.f 8 [9] (.w 9 [29, 36] (.f 10 [9] (.w 11 [31, 37] (.f 12 [9] (.w 13 [33, 38] (.f 14 [9] (.w 15 [35, 39] .fin))))))))))))))))) (.d (.f 0 [10] (.f 2 [1] (.f 3 [10] (.f 1 [40] (.f 4 [43] (.w 5 [42, 44] (.w 6 [41, 45] (.w 7 [46] (.f 8 [9] (.w 9 [47, 48] .fin)))))))))))) .o))) (.s .o (.s .o .o)))))) h (by kernel_rfl)
def W_sampler_longest (l : Sl) (R : Rs.T [qu] → WP) : WP :=
 loop [.int .u64, .int .i64] ((0:Int), (0:Int)) fun J1 (y2 : Int × Int) =>
 ite' (decide (y2.2 < ((l.len : Nat) : Int))) (
 idx l y2.2 1 fun q3 =>
 ld cu q3 fun (x4 : Int) =>
 ite' (decide (x4 ≤ y2.1)) (
 J1 (y2.1, (IntKind.i64.wrap (y2.2 + (1:Int))))) <|
 J1 (x4, (IntKind.i64.wrap (y2.2 + (1:Int))))) <|
 R y2.1
theorem call_sampler_longest (l : Sl) (R : Rs.T [qu] → WP) (w : World) (h : W_sampler_longest l R w) : CW Tryz.prog N_sampler_longest [.lf (.sl l)] [qu] R w := cs Tryz.func139 (.s .o (.s .o (.s .o (.s (.s .o (.b (.l [(3, qu), (8, qi)] (.s .o (.s (.s .o .o) (.s (.b (.s .o (.s (.s .o (.s .o .o)) .o))) .o)))))) (.s .o .o))))) h (by kernel_rfl)
def W_sat_Add (a : Int) (b : Int) (R : Rs.T [qu] → WP) : WP :=
 call Tryz.prog N_math_bits_Add64 [vu a, vu b, .lf (zu)] [qu, qu] fun (r1 : Int × Int) =>
 ite' (decide (r1.2 > (0:Int))) (
 R (18446744073709551615:Int)) <|
 R r1.1
theorem call_sat_Add (a : Int) (b : Int) (R : Rs.T [qu] → WP) (w : World) (h : W_sat_Add a b R w) : CW Tryz.prog N_sat_Add [vu a, vu b] [qu] R w := cs Tryz.func44 (.s .o (.s .o (.s (.s .o (.s (.s .o .o) .o)) (.s .o .o)))) h (by kernel_rfl)
def W_sat_Mul (a : Int) (b : Int) (R : Rs.T [qu] → WP) : WP :=
 call Tryz.prog N_math_bits_Mul64 [vu a, vu b] [qu, qu] fun (r1 : Int × Int) =>
 ite' (decide (r1.1 > (0:Int))) (
 R (18446744073709551615:Int)) <|
 R r1.2
theorem call_sat_Mul (a : Int) (b : Int) (R : Rs.T [qu] → WP) (w : World) (h : W_sat_Mul a b R w) : CW Tryz.prog N_sat_Mul [vu a, vu b] [qu] R w := cs Tryz.func178 (.s .o (.s .o (.s (.s .o (.s (.s .o .o) .o)) (.s .o .o)))) h (by kernel_rfl)
def W_sat_Sub (a : Int) (b : Int) (R : Rs.T [qu] → WP) : WP :=
 R (IntKind.u64.wrap (a - (if b < a then b else a)))
theorem call_sat_Sub (a : Int) (b : Int) (R : Rs.T [qu] → WP) (w : World) (h : W_sat_Sub a b R w) : CW Tryz.prog N_sat_Sub [vu a, vu b] [qu] R w := cs Tryz.func100 (.s .o (.s .o .o)) h (by kernel_rfl)
def W_slices_ContainsFunc_sapiRangeapiRange (s : Sl) (f : Fv) (R : Rs.T [qb] → WP) : WP :=
 call Tryz.prog N_slices_IndexFunc_sapiRangeapiRange [.lf (.sl s), .lf (.fn f)] [qi] fun (r1 : Int) =>
 R (decide (r1 ≥ (0:Int)))
theorem call_slices_ContainsFunc_sapiRangeapiRange (s : Sl) (f : Fv) (R : Rs.T [qb] → WP) (w : World) (h : W_slices_ContainsFunc_sapiRangeapiRange s f R w) : CW Tryz.prog N_slices_ContainsFunc_sapiRangeapiRange [.lf (.sl s), .lf (.fn f)] [qb] R w := cs Tryz.func125 (.s .o (.s .o .o)) h (by kernel_rfl)
def W_slices_IndexFunc_sapiRangeapiRange (s : Sl) (f : Fv) (R : Rs.T [qi] → WP) : WP :=
 loop ci (0:Int) fun J1 (y2 : Int) =>
 ite' (decide (y2 < ((s.len : Nat) : Int))) (
 idx s y2 2 fun q3 =>
 ld cr q3 fun (x4 : Int × Int) =>
 callv Tryz.prog f [.agg (Ks.mk cr x4)] [qb] fun (r5 : Bool) =>
 ite' r5 (
 R y2) <|
 J1 (IntKind.i64.wrap (y2 + (1:Int)))) <|
 R (-1:Int)
theorem call_slices_IndexFunc_sapiRangeapiRange (s : Sl) (f : Fv) (R : Rs.T [qi] → WP) (w : World) (h : W_slices_IndexFunc_sapiRangeapiRange s f R w) : CW Tryz.prog N_slices_IndexFunc_sapiRangeapiRange [.lf (.sl s), .lf (.fn f)] [qi] R w := cs Tryz.func156 (.s .o (.s (.s .o (.b (.l [(8, qi)] (.s .o (.s (.s .o .o) (.s (.b (.s .o (.s .o (.s (.s .o .o) .o)))) .o)))))) (.s .o .o))) h (by kernel_rfl)
def W_sock_New (id : Int) (c : T_i4u2bi2) (R : Rs.T [qp] → WP) : WP :=
 new (Ks.mk K_i4u2bi2 c) fun n1 =>
 ld ci ⟨n1, 8⟩ fun (x2 : Int) =>
 drw <|
 ld ci ⟨n1, 7⟩ fun (x3 : Int) =>
 call Tryz.prog N_buffer_New [.lf (.int .i64 (1073741824:Int))] [qp] fun (r4 : Option Pt) =>
 chk ⟨n1, 7⟩ (Ks.mk ci x3) <|
 call Tryz.prog N_board_New [] [qp] fun (r5 : Option Pt) =>
 chk ⟨n1, 7⟩ (Ks.mk ci x3) <|
 call Tryz.prog N_sampler_New [] [qp] fun (r6 : Option Pt) =>
 chk ⟨n1, 7⟩ (Ks.mk ci x3) <|
 call Tryz.prog N_bbr_New [.lf (.int .u64 (IntKind.u64.wrap (if (9000:Int) < (if (100:Int) > x2 then (100:Int) else x2) then (9000:Int) else (if (100:Int) > x2 then (100:Int) else x2))))] [qp] fun (r7 : Option Pt) =>
 chk ⟨n1, 7⟩ (Ks.mk ci x3) <|
 new [.int .i64 id, .int .i64 (if (9000:Int) < (if (100:Int) > x2 then (100:Int) else x2) then (9000:Int) else (if (100:Int) > x2 then (100:Int) else x2)), .int .i64 x3, .ptr r4, .ptr r5, .ptr r6, .ptr r7, zu, zu] fun n8 =>
 R (some ⟨n8, 0⟩)
theorem call_sock_New (id : Int) (c : T_i4u2bi2) (R : Rs.T [qp] → WP) (w : World) (h : W_sock_New id c R w) : CW Tryz.prog N_sock_New [vi id, .agg (Ks.mk K_i4u2bi2 c)] [qp] R w := cs Tryz.func8 (.s .o (.s .o (.s (.d (.f 0 [0] (.f 1 [5] (.f 2 [3] (.f 7 [5] (.f 3 [12] (.f 8 [17] (.w 4 [] (.w 5 [] (.w 6 [] (.w 9 [18] (.f 10 [10, 11, 13, 14, 15, 16, 19] (.w 11 [20] (.w 12 [21] .fin)))))))))))))) .o))) h (by kernel_rfl)
def W_sock_Sock_Ack (s : Option Pt) (now : Int) (upto : Int) (sacks : Sl) (R : Rs.T [qi] → WP) : WP :=
 ite' s.isNone (
 R (2:Int)) <|
 deref s fun q1 =>
 lo cp q1 4 fun (x2 : Option Pt) =>
 call Tryz.prog N_board_Board_Ack [vp x2, vu upto, .lf (.sl sacks)] [qs, qu, qi] fun (r3 : Sl × Int × Int) =>
 ite' (r3.2.2 != (0:Int)) (
 R r3.2.2) <|
 deref s fun q4 =>
 lo cp q4 3 fun (x5 : Option Pt) =>
 call Tryz.prog N_buffer_Buffer_Acked [vp x5, vu upto] [qi] fun (r6 : Int) =>
 loop cl r3.1 fun J7 (y8 : Sl) =>
 ite' (((y8.len : Nat) : Int) == (0:Int)) (
 call Tryz.prog N_sock_Sock_learn [vp s, vu now, vu r3.2.1] [] fun (r9 : Unit) =>
 R (0:Int)) <|
 idx y8 (0:Int) 9 fun q10 =>
 ld K_u6b3 q10 fun (x11 : T_u6b3) =>
 new [zu, zu, zu, zu, zu, zu, .bool false, .bool false, .bool false] fun n12 =>
 st ⟨n12, 0⟩ (Ks.mk K_u6b3 x11) <|
 slc y8 (some (1:Int)) none none 9 fun s13 =>
 drw <|
 deref s fun q14 =>
 ld cu ⟨n12, 1⟩ fun (x15 : Int) =>
 ld cu ⟨n12, 0⟩ fun (x16 : Int) =>
 ld K_u4b ⟨n12, 2⟩ fun (x17 : T_u4b) =>
 lo cp q14 5 fun (x18 : Option Pt) =>
 call Tryz.prog N_sampler_Sampler_Acked [vp x18, vu now, .lf (.int .u64 (IntKind.u64.wrap (x15 - x16))), .agg (Ks.mk K_u4b x17)] [] fun (r19 : Unit) =>
 J7 s13
theorem call_sock_Sock_Ack (s : Option Pt) (now : Int) (upto : Int) (sacks : Sl) (R : Rs.T [qi] → WP) (w : World) (h : W_sock_Sock_Ack s now upto sacks R w) : CW Tryz.prog N_sock_Sock_Ack [vp s, vu now, vu upto, .lf (.sl sacks)] [qi] R w := cs Tryz.func14 (.s .o (.s (.s .o (.s (.s .o .o) .o)) (.s .o (.s (.s .o (.s (.s .o .o) .o)) (.s .o (.s .o (.s (.b (.l [(9, qs)] (.b (.s (.s .o (.s .o .o)) (.s .o (.s .o (.d (.f 0 [0] (.f 4 [1] (.f 5 [12] (.f 7 [12] (.f 10 [12] (.f 1 [43] (.f 6 [48] (.f 8 [50] (.f 11 [53] (.f 2 [44] (.f 9 [49, 51] (.f 3 [45] (.w 12 [46, 47, 52, 54] .fin)))))))))))))))))))) (.s .o (.s .o .o))))))))) h (by kernel_rfl)
def W_sock_Sock_Done (s : Option Pt) (n : Int) (R : Rs.T [qi] → WP) : WP :=
 join [] (fun J1 =>
 ite' s.isNone (
 R (2:Int)) <|
 ite' (decide (n < (1:Int))) (
 R (1:Int)) <|
 deref s fun q3 =>
 lo cu q3 7 fun (x4 : Int) =>
 ite' (decide ((IntKind.u64.wrap n) > x4)) (
 R (1:Int)) <|
 J1 ()) fun (y2 : Unit) =>
 deref s fun q5 =>
 lo cu q5 7 fun (x6 : Int) =>
 deref s fun q7 =>
 so q7 7 [.int .u64 (IntKind.u64.wrap (x6 - (IntKind.u64.wrap n)))] <|
 R (0:Int)
theorem call_sock_Sock_Done (s : Option Pt) (n : Int) (R : Rs.T [qi] → WP) (w : World) (h : W_sock_Sock_Done s n R w) : CW Tryz.prog N_sock_Sock_Done [vp s, vi n] [qi] R w := cs Tryz.func13 (.s .o (.j [] (.b (.s .o (.s (.s .o .o) (.s .o (.s (.s .o .o) .o))))) (.s .o (.s .o .o)))) h (by kernel_rfl)
end Go.X
