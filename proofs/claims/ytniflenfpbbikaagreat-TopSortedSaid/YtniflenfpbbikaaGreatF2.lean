/- What each function of the program computes, as a weakest precondition, printed by program; the kernel sees that the code says so. -/
import Derived.Test.YtniflenfpbbikaaGreatK
import Derived.Test.YtniflenfpbbikaaGreatProg
set_option linter.unusedVariables false
set_option linter.unusedSimpArgs false
set_option linter.unusedSectionVars false
namespace Go.X
open Go.Proofs
def W_sock_Sock_Emit (d : Option Pt) (o : Int) (R : Rs.T [.agg K_iuiub, qi] → WP) : WP :=
 new [zi, zu, zi, zu, .bool false] fun n1 =>
 ite' d.isNone (
 st ⟨n1, 0⟩ [zi, zu, zi, zu, .bool false] <|
 ld K_iuiub ⟨n1, 0⟩ fun (x2 : T_iuiub) =>
 R (x2, (2:Int))) <|
 call Tryz.prog N_sock_Sock_may [vp d] [qi] fun (r3 : Int) =>
 ite' (r3 != (0:Int)) (
 st ⟨n1, 0⟩ [zi, zu, zi, zu, .bool false] <|
 ld K_iuiub ⟨n1, 0⟩ fun (x4 : T_iuiub) =>
 R (x4, r3)) <|
 drw <|
 deref d fun q5 =>
 lo cp q5 5 fun (x6 : Option Pt) =>
 both (
 call Tryz.prog N_sock_Sock_Flight [vp d] [qu] fun (r7 : Int) =>
 ck q5 5 cp x6 <|
 both (
 call Tryz.prog N_sampler_Sampler_Sent [vp x6, vu o, vu r7] [.agg K_u4b] fun (r8 : T_u4b) =>
 new [zu, zu, zu, zu, .bool false] fun n9 =>
 ck q5 5 cp x6 <|
 st ⟨n9, 0⟩ (Ks.mk K_u4b r8) <|
 drw <|
 ld K_u4b ⟨n9, 0⟩ fun (x10 : T_u4b) =>
 deref d fun q11 =>
 lo cp q11 4 fun (x12 : Option Pt) =>
 both (
 call Tryz.prog N_board_Board_Again [vp x12, .agg (Ks.mk K_u4b x10)] [.agg [.int .u64, .int .u64], qb] fun (r13 : (Int × Int) × Bool) =>
 new [zu, zu] fun n14 =>
 ck q11 4 cp x12 <|
 chk ⟨n9, 0⟩ (Ks.mk K_u4b x10) <|
 st ⟨n14, 0⟩ (Ks.mk cr r13.1) <|
 join [] (fun J15 =>
 ite' (!r13.2) (
 drw <|
 deref d fun q17 =>
 lo cp q17 3 fun (x18 : Option Pt) =>
 call Tryz.prog N_sock_Sock_Tso [vp d] [qi] fun (r19 : Int) =>
 ck q17 3 cp x18 <|
 call Tryz.prog N_buffer_Buffer_Take [vp x18, vi r19] [.agg [.int .u64, .int .u64], qb] fun (r20 : (Int × Int) × Bool) =>
 st ⟨n14, 0⟩ (Ks.mk cr r20.1) <|
 drw <|
 ld K_u4b ⟨n9, 0⟩ fun (x21 : T_u4b) =>
 deref d fun q22 =>
 ld cu ⟨n14, 0⟩ fun (x23 : Int) =>
 ld cu ⟨n14, 1⟩ fun (x24 : Int) =>
 lo cp q22 4 fun (x25 : Option Pt) =>
 call Tryz.prog N_board_Board_Sent [vp x25, vu x23, vu x24, .agg (Ks.mk K_u4b x21)] [qi] fun (r26 : Int) =>
 J15 ()) <|
 J15 ()) fun (y16 : Unit) =>
 drw <|
 deref d fun q27 =>
 ld cu ⟨n14, 0⟩ fun (x28 : Int) =>
 ld cu ⟨n14, 1⟩ fun (x29 : Int) =>
 ld cu ⟨n14, 0⟩ fun (x30 : Int) =>
 deref d fun q31 =>
 ld ci q27 fun (x32 : Int) =>
 lo cu q31 8 fun (x33 : Int) =>
 new [zi, zu, zi, zu, .bool false] fun n34 =>
 ck q31 8 cu x33 <|
 chk q27 (Ks.mk ci x32) <|
 chk ⟨n14, 0⟩ (Ks.mk cu x30) <|
 chk ⟨n14, 1⟩ (Ks.mk cu x29) <|
 chk ⟨n14, 0⟩ (Ks.mk cu x28) <|
 st ⟨n34, 0⟩ [.int .i64 x32, .int .u64 x28, .int .i64 (IntKind.i64.wrap (IntKind.u64.wrap (x29 - x30))), .int .u64 (if x33 > o then x33 else o), .bool r13.2] <|
 drw <|
 ld cu ⟨n34, 3⟩ fun (x35 : Int) =>
 ld ci ⟨n34, 2⟩ fun (x36 : Int) =>
 deref d fun q37 =>
 lo cp q37 6 fun (x38 : Option Pt) =>
 call Tryz.prog N_bbr_Model_State [vp x38] [.agg K_i2u6b2] fun (r39 : T_i2u6b2) =>
 chk ⟨n34, 2⟩ (Ks.mk ci x36) <|
 chk ⟨n34, 3⟩ (Ks.mk cu x35) <|
 call Tryz.prog N_delay_Of [vi x36, vu r39.2.2.1] [qu] fun (r40 : Int) =>
 chk ⟨n34, 3⟩ (Ks.mk cu x35) <|
 call Tryz.prog N_sat_Add [vu x35, vu r40] [qu] fun (r41 : Int) =>
 deref d fun q42 =>
 so q42 8 [.int .u64 r41] <|
 drw <|
 deref d fun q43 =>
 ld ci ⟨n34, 2⟩ fun (x44 : Int) =>
 lo cu q43 7 fun (x45 : Int) =>
 deref d fun q46 =>
 so q46 7 [.int .u64 (IntKind.u64.wrap (x45 + (IntKind.u64.wrap x44)))] <|
 ld K_iuiub ⟨n34, 0⟩ fun (x47 : T_iuiub) =>
 st ⟨n1, 0⟩ (Ks.mk K_iuiub x47) <|
 ld K_iuiub ⟨n1, 0⟩ fun (x48 : T_iuiub) =>
 R (x48, (0:Int))) <|
 new [zu, zu] fun n49 =>
 ck q11 4 cp x12 <|
 chk ⟨n9, 0⟩ (Ks.mk K_u4b x10) <|
 call Tryz.prog N_board_Board_Again [vp x12, .agg (Ks.mk K_u4b x10)] [.agg [.int .u64, .int .u64], qb] fun (r50 : (Int × Int) × Bool) =>
 st ⟨n49, 0⟩ (Ks.mk cr r50.1) <|
 join [] (fun J51 =>
 ite' (!r50.2) (
 drw <|
 deref d fun q53 =>
 lo cp q53 3 fun (x54 : Option Pt) =>
 call Tryz.prog N_sock_Sock_Tso [vp d] [qi] fun (r55 : Int) =>
 ck q53 3 cp x54 <|
 call Tryz.prog N_buffer_Buffer_Take [vp x54, vi r55] [.agg [.int .u64, .int .u64], qb] fun (r56 : (Int × Int) × Bool) =>
 st ⟨n49, 0⟩ (Ks.mk cr r56.1) <|
 drw <|
 ld K_u4b ⟨n9, 0⟩ fun (x57 : T_u4b) =>
 deref d fun q58 =>
 ld cu ⟨n49, 0⟩ fun (x59 : Int) =>
 ld cu ⟨n49, 1⟩ fun (x60 : Int) =>
 lo cp q58 4 fun (x61 : Option Pt) =>
 call Tryz.prog N_board_Board_Sent [vp x61, vu x59, vu x60, .agg (Ks.mk K_u4b x57)] [qi] fun (r62 : Int) =>
 J51 ()) <|
 J51 ()) fun (y52 : Unit) =>
 drw <|
 deref d fun q63 =>
 ld cu ⟨n49, 0⟩ fun (x64 : Int) =>
 ld cu ⟨n49, 1⟩ fun (x65 : Int) =>
 ld cu ⟨n49, 0⟩ fun (x66 : Int) =>
 deref d fun q67 =>
 ld ci q63 fun (x68 : Int) =>
 lo cu q67 8 fun (x69 : Int) =>
 new [zi, zu, zi, zu, .bool false] fun n70 =>
 ck q67 8 cu x69 <|
 chk q63 (Ks.mk ci x68) <|
 chk ⟨n49, 0⟩ (Ks.mk cu x66) <|
 chk ⟨n49, 1⟩ (Ks.mk cu x65) <|
 chk ⟨n49, 0⟩ (Ks.mk cu x64) <|
 st ⟨n70, 0⟩ [.int .i64 x68, .int .u64 x64, .int .i64 (IntKind.i64.wrap (IntKind.u64.wrap (x65 - x66))), .int .u64 (if x69 > o then x69 else o), .bool r50.2] <|
 drw <|
 ld cu ⟨n70, 3⟩ fun (x71 : Int) =>
 ld ci ⟨n70, 2⟩ fun (x72 : Int) =>
 deref d fun q73 =>
 lo cp q73 6 fun (x74 : Option Pt) =>
 call Tryz.prog N_bbr_Model_State [vp x74] [.agg K_i2u6b2] fun (r75 : T_i2u6b2) =>
 chk ⟨n70, 2⟩ (Ks.mk ci x72) <|
 chk ⟨n70, 3⟩ (Ks.mk cu x71) <|
 call Tryz.prog N_delay_Of [vi x72, vu r75.2.2.1] [qu] fun (r76 : Int) =>
 chk ⟨n70, 3⟩ (Ks.mk cu x71) <|
 call Tryz.prog N_sat_Add [vu x71, vu r76] [qu] fun (r77 : Int) =>
 deref d fun q78 =>
 so q78 8 [.int .u64 r77] <|
 drw <|
 deref d fun q79 =>
 ld ci ⟨n70, 2⟩ fun (x80 : Int) =>
 lo cu q79 7 fun (x81 : Int) =>
 deref d fun q82 =>
 so q82 7 [.int .u64 (IntKind.u64.wrap (x81 + (IntKind.u64.wrap x80)))] <|
 ld K_iuiub ⟨n70, 0⟩ fun (x83 : T_iuiub) =>
 st ⟨n1, 0⟩ (Ks.mk K_iuiub x83) <|
 ld K_iuiub ⟨n1, 0⟩ fun (x84 : T_iuiub) =>
 R (x84, (0:Int))) <|
 new [zu, zu, zu, zu, .bool false] fun n85 =>
 ck q5 5 cp x6 <|
 call Tryz.prog N_sampler_Sampler_Sent [vp x6, vu o, vu r7] [.agg K_u4b] fun (r86 : T_u4b) =>
 st ⟨n85, 0⟩ (Ks.mk K_u4b r86) <|
 drw <|
 ld K_u4b ⟨n85, 0⟩ fun (x87 : T_u4b) =>
 deref d fun q88 =>
 lo cp q88 4 fun (x89 : Option Pt) =>
 both (
 call Tryz.prog N_board_Board_Again [vp x89, .agg (Ks.mk K_u4b x87)] [.agg [.int .u64, .int .u64], qb] fun (r90 : (Int × Int) × Bool) =>
 new [zu, zu] fun n91 =>
 ck q88 4 cp x89 <|
 chk ⟨n85, 0⟩ (Ks.mk K_u4b x87) <|
 st ⟨n91, 0⟩ (Ks.mk cr r90.1) <|
 join [] (fun J92 =>
 ite' (!r90.2) (
 drw <|
 deref d fun q94 =>
 lo cp q94 3 fun (x95 : Option Pt) =>
 call Tryz.prog N_sock_Sock_Tso [vp d] [qi] fun (r96 : Int) =>
 ck q94 3 cp x95 <|
 call Tryz.prog N_buffer_Buffer_Take [vp x95, vi r96] [.agg [.int .u64, .int .u64], qb] fun (r97 : (Int × Int) × Bool) =>
 st ⟨n91, 0⟩ (Ks.mk cr r97.1) <|
 drw <|
 ld K_u4b ⟨n85, 0⟩ fun (x98 : T_u4b) =>
 deref d fun q99 =>
 ld cu ⟨n91, 0⟩ fun (x100 : Int) =>
 ld cu ⟨n91, 1⟩ fun (x101 : Int) =>
 lo cp q99 4 fun (x102 : Option Pt) =>
 call Tryz.prog N_board_Board_Sent [vp x102, vu x100, vu x101, .agg (Ks.mk K_u4b x98)] [qi] fun (r103 : Int) =>
 J92 ()) <|
 J92 ()) fun (y93 : Unit) =>
 drw <|
 deref d fun q104 =>
 ld cu ⟨n91, 0⟩ fun (x105 : Int) =>
 ld cu ⟨n91, 1⟩ fun (x106 : Int) =>
 ld cu ⟨n91, 0⟩ fun (x107 : Int) =>
 deref d fun q108 =>
 ld ci q104 fun (x109 : Int) =>
 lo cu q108 8 fun (x110 : Int) =>
 new [zi, zu, zi, zu, .bool false] fun n111 =>
 ck q108 8 cu x110 <|
 chk q104 (Ks.mk ci x109) <|
 chk ⟨n91, 0⟩ (Ks.mk cu x107) <|
 chk ⟨n91, 1⟩ (Ks.mk cu x106) <|
 chk ⟨n91, 0⟩ (Ks.mk cu x105) <|
 st ⟨n111, 0⟩ [.int .i64 x109, .int .u64 x105, .int .i64 (IntKind.i64.wrap (IntKind.u64.wrap (x106 - x107))), .int .u64 (if x110 > o then x110 else o), .bool r90.2] <|
 drw <|
 ld cu ⟨n111, 3⟩ fun (x112 : Int) =>
 ld ci ⟨n111, 2⟩ fun (x113 : Int) =>
 deref d fun q114 =>
 lo cp q114 6 fun (x115 : Option Pt) =>
 call Tryz.prog N_bbr_Model_State [vp x115] [.agg K_i2u6b2] fun (r116 : T_i2u6b2) =>
 chk ⟨n111, 2⟩ (Ks.mk ci x113) <|
 chk ⟨n111, 3⟩ (Ks.mk cu x112) <|
 call Tryz.prog N_delay_Of [vi x113, vu r116.2.2.1] [qu] fun (r117 : Int) =>
 chk ⟨n111, 3⟩ (Ks.mk cu x112) <|
 call Tryz.prog N_sat_Add [vu x112, vu r117] [qu] fun (r118 : Int) =>
 deref d fun q119 =>
 so q119 8 [.int .u64 r118] <|
 drw <|
 deref d fun q120 =>
 ld ci ⟨n111, 2⟩ fun (x121 : Int) =>
 lo cu q120 7 fun (x122 : Int) =>
 deref d fun q123 =>
 so q123 7 [.int .u64 (IntKind.u64.wrap (x122 + (IntKind.u64.wrap x121)))] <|
 ld K_iuiub ⟨n111, 0⟩ fun (x124 : T_iuiub) =>
 st ⟨n1, 0⟩ (Ks.mk K_iuiub x124) <|
 ld K_iuiub ⟨n1, 0⟩ fun (x125 : T_iuiub) =>
 R (x125, (0:Int))) <|
 new [zu, zu] fun n126 =>
 ck q88 4 cp x89 <|
 chk ⟨n85, 0⟩ (Ks.mk K_u4b x87) <|
 call Tryz.prog N_board_Board_Again [vp x89, .agg (Ks.mk K_u4b x87)] [.agg [.int .u64, .int .u64], qb] fun (r127 : (Int × Int) × Bool) =>
 st ⟨n126, 0⟩ (Ks.mk cr r127.1) <|
 join [] (fun J128 =>
 ite' (!r127.2) (
 drw <|
 deref d fun q130 =>
 lo cp q130 3 fun (x131 : Option Pt) =>
 call Tryz.prog N_sock_Sock_Tso [vp d] [qi] fun (r132 : Int) =>
 ck q130 3 cp x131 <|
 call Tryz.prog N_buffer_Buffer_Take [vp x131, vi r132] [.agg [.int .u64, .int .u64], qb] fun (r133 : (Int × Int) × Bool) =>
 st ⟨n126, 0⟩ (Ks.mk cr r133.1) <|
 drw <|
 ld K_u4b ⟨n85, 0⟩ fun (x134 : T_u4b) =>
 deref d fun q135 =>
 ld cu ⟨n126, 0⟩ fun (x136 : Int) =>
 ld cu ⟨n126, 1⟩ fun (x137 : Int) =>
 lo cp q135 4 fun (x138 : Option Pt) =>
 call Tryz.prog N_board_Board_Sent [vp x138, vu x136, vu x137, .agg (Ks.mk K_u4b x134)] [qi] fun (r139 : Int) =>
 J128 ()) <|
 J128 ()) fun (y129 : Unit) =>
 drw <|
 deref d fun q140 =>
 ld cu ⟨n126, 0⟩ fun (x141 : Int) =>
 ld cu ⟨n126, 1⟩ fun (x142 : Int) =>
 ld cu ⟨n126, 0⟩ fun (x143 : Int) =>
 deref d fun q144 =>
 ld ci q140 fun (x145 : Int) =>
 lo cu q144 8 fun (x146 : Int) =>
 new [zi, zu, zi, zu, .bool false] fun n147 =>
 ck q144 8 cu x146 <|
 chk q140 (Ks.mk ci x145) <|
 chk ⟨n126, 0⟩ (Ks.mk cu x143) <|
 chk ⟨n126, 1⟩ (Ks.mk cu x142) <|
 chk ⟨n126, 0⟩ (Ks.mk cu x141) <|
 st ⟨n147, 0⟩ [.int .i64 x145, .int .u64 x141, .int .i64 (IntKind.i64.wrap (IntKind.u64.wrap (x142 - x143))), .int .u64 (if x146 > o then x146 else o), .bool r127.2] <|
 drw <|
 ld cu ⟨n147, 3⟩ fun (x148 : Int) =>
 ld ci ⟨n147, 2⟩ fun (x149 : Int) =>
 deref d fun q150 =>
 lo cp q150 6 fun (x151 : Option Pt) =>
 call Tryz.prog N_bbr_Model_State [vp x151] [.agg K_i2u6b2] fun (r152 : T_i2u6b2) =>
 chk ⟨n147, 2⟩ (Ks.mk ci x149) <|
 chk ⟨n147, 3⟩ (Ks.mk cu x148) <|
 call Tryz.prog N_delay_Of [vi x149, vu r152.2.2.1] [qu] fun (r153 : Int) =>
 chk ⟨n147, 3⟩ (Ks.mk cu x148) <|
 call Tryz.prog N_sat_Add [vu x148, vu r153] [qu] fun (r154 : Int) =>
 deref d fun q155 =>
 so q155 8 [.int .u64 r154] <|
 drw <|
 deref d fun q156 =>
 ld ci ⟨n147, 2⟩ fun (x157 : Int) =>
 lo cu q156 7 fun (x158 : Int) =>
 deref d fun q159 =>
 so q159 7 [.int .u64 (IntKind.u64.wrap (x158 + (IntKind.u64.wrap x157)))] <|
 ld K_iuiub ⟨n147, 0⟩ fun (x160 : T_iuiub) =>
 st ⟨n1, 0⟩ (Ks.mk K_iuiub x160) <|
 ld K_iuiub ⟨n1, 0⟩ fun (x161 : T_iuiub) =>
 R (x161, (0:Int))) <|
 new [zu, zu, zu, zu, .bool false] fun n162 =>
 ck q5 5 cp x6 <|
 call Tryz.prog N_sock_Sock_Flight [vp d] [qu] fun (r163 : Int) =>
 ck q5 5 cp x6 <|
 call Tryz.prog N_sampler_Sampler_Sent [vp x6, vu o, vu r163] [.agg K_u4b] fun (r164 : T_u4b) =>
 st ⟨n162, 0⟩ (Ks.mk K_u4b r164) <|
 drw <|
 ld K_u4b ⟨n162, 0⟩ fun (x165 : T_u4b) =>
 deref d fun q166 =>
 lo cp q166 4 fun (x167 : Option Pt) =>
 both (
 call Tryz.prog N_board_Board_Again [vp x167, .agg (Ks.mk K_u4b x165)] [.agg [.int .u64, .int .u64], qb] fun (r168 : (Int × Int) × Bool) =>
 new [zu, zu] fun n169 =>
 ck q166 4 cp x167 <|
 chk ⟨n162, 0⟩ (Ks.mk K_u4b x165) <|
 st ⟨n169, 0⟩ (Ks.mk cr r168.1) <|
 join [] (fun J170 =>
 ite' (!r168.2) (
 drw <|
 deref d fun q172 =>
 lo cp q172 3 fun (x173 : Option Pt) =>
 call Tryz.prog N_sock_Sock_Tso [vp d] [qi] fun (r174 : Int) =>
 ck q172 3 cp x173 <|
 call Tryz.prog N_buffer_Buffer_Take [vp x173, vi r174] [.agg [.int .u64, .int .u64], qb] fun (r175 : (Int × Int) × Bool) =>
 st ⟨n169, 0⟩ (Ks.mk cr r175.1) <|
 drw <|
 ld K_u4b ⟨n162, 0⟩ fun (x176 : T_u4b) =>
 deref d fun q177 =>
 ld cu ⟨n169, 0⟩ fun (x178 : Int) =>
 ld cu ⟨n169, 1⟩ fun (x179 : Int) =>
 lo cp q177 4 fun (x180 : Option Pt) =>
 call Tryz.prog N_board_Board_Sent [vp x180, vu x178, vu x179, .agg (Ks.mk K_u4b x176)] [qi] fun (r181 : Int) =>
 J170 ()) <|
 J170 ()) fun (y171 : Unit) =>
 drw <|
 deref d fun q182 =>
 ld cu ⟨n169, 0⟩ fun (x183 : Int) =>
 ld cu ⟨n169, 1⟩ fun (x184 : Int) =>
 ld cu ⟨n169, 0⟩ fun (x185 : Int) =>
 deref d fun q186 =>
 ld ci q182 fun (x187 : Int) =>
 lo cu q186 8 fun (x188 : Int) =>
 new [zi, zu, zi, zu, .bool false] fun n189 =>
 ck q186 8 cu x188 <|
 chk q182 (Ks.mk ci x187) <|
 chk ⟨n169, 0⟩ (Ks.mk cu x185) <|
 chk ⟨n169, 1⟩ (Ks.mk cu x184) <|
 chk ⟨n169, 0⟩ (Ks.mk cu x183) <|
 st ⟨n189, 0⟩ [.int .i64 x187, .int .u64 x183, .int .i64 (IntKind.i64.wrap (IntKind.u64.wrap (x184 - x185))), .int .u64 (if x188 > o then x188 else o), .bool r168.2] <|
 drw <|
 ld cu ⟨n189, 3⟩ fun (x190 : Int) =>
 ld ci ⟨n189, 2⟩ fun (x191 : Int) =>
 deref d fun q192 =>
 lo cp q192 6 fun (x193 : Option Pt) =>
 call Tryz.prog N_bbr_Model_State [vp x193] [.agg K_i2u6b2] fun (r194 : T_i2u6b2) =>
 chk ⟨n189, 2⟩ (Ks.mk ci x191) <|
 chk ⟨n189, 3⟩ (Ks.mk cu x190) <|
 call Tryz.prog N_delay_Of [vi x191, vu r194.2.2.1] [qu] fun (r195 : Int) =>
 chk ⟨n189, 3⟩ (Ks.mk cu x190) <|
 call Tryz.prog N_sat_Add [vu x190, vu r195] [qu] fun (r196 : Int) =>
 deref d fun q197 =>
 so q197 8 [.int .u64 r196] <|
 drw <|
 deref d fun q198 =>
 ld ci ⟨n189, 2⟩ fun (x199 : Int) =>
 lo cu q198 7 fun (x200 : Int) =>
 deref d fun q201 =>
 so q201 7 [.int .u64 (IntKind.u64.wrap (x200 + (IntKind.u64.wrap x199)))] <|
 ld K_iuiub ⟨n189, 0⟩ fun (x202 : T_iuiub) =>
 st ⟨n1, 0⟩ (Ks.mk K_iuiub x202) <|
 ld K_iuiub ⟨n1, 0⟩ fun (x203 : T_iuiub) =>
 R (x203, (0:Int))) <|
 new [zu, zu] fun n204 =>
 ck q166 4 cp x167 <|
 chk ⟨n162, 0⟩ (Ks.mk K_u4b x165) <|
 call Tryz.prog N_board_Board_Again [vp x167, .agg (Ks.mk K_u4b x165)] [.agg [.int .u64, .int .u64], qb] fun (r205 : (Int × Int) × Bool) =>
 st ⟨n204, 0⟩ (Ks.mk cr r205.1) <|
 join [] (fun J206 =>
 ite' (!r205.2) (
 drw <|
 deref d fun q208 =>
 lo cp q208 3 fun (x209 : Option Pt) =>
 call Tryz.prog N_sock_Sock_Tso [vp d] [qi] fun (r210 : Int) =>
 ck q208 3 cp x209 <|
 call Tryz.prog N_buffer_Buffer_Take [vp x209, vi r210] [.agg [.int .u64, .int .u64], qb] fun (r211 : (Int × Int) × Bool) =>
 st ⟨n204, 0⟩ (Ks.mk cr r211.1) <|
 drw <|
 ld K_u4b ⟨n162, 0⟩ fun (x212 : T_u4b) =>
 deref d fun q213 =>
 ld cu ⟨n204, 0⟩ fun (x214 : Int) =>
 ld cu ⟨n204, 1⟩ fun (x215 : Int) =>
 lo cp q213 4 fun (x216 : Option Pt) =>
 call Tryz.prog N_board_Board_Sent [vp x216, vu x214, vu x215, .agg (Ks.mk K_u4b x212)] [qi] fun (r217 : Int) =>
 J206 ()) <|
 J206 ()) fun (y207 : Unit) =>
 drw <|
 deref d fun q218 =>
 ld cu ⟨n204, 0⟩ fun (x219 : Int) =>
 ld cu ⟨n204, 1⟩ fun (x220 : Int) =>
 ld cu ⟨n204, 0⟩ fun (x221 : Int) =>
 deref d fun q222 =>
 ld ci q218 fun (x223 : Int) =>
 lo cu q222 8 fun (x224 : Int) =>
 new [zi, zu, zi, zu, .bool false] fun n225 =>
 ck q222 8 cu x224 <|
 chk q218 (Ks.mk ci x223) <|
 chk ⟨n204, 0⟩ (Ks.mk cu x221) <|
 chk ⟨n204, 1⟩ (Ks.mk cu x220) <|
 chk ⟨n204, 0⟩ (Ks.mk cu x219) <|
 st ⟨n225, 0⟩ [.int .i64 x223, .int .u64 x219, .int .i64 (IntKind.i64.wrap (IntKind.u64.wrap (x220 - x221))), .int .u64 (if x224 > o then x224 else o), .bool r205.2] <|
 drw <|
 ld cu ⟨n225, 3⟩ fun (x226 : Int) =>
 ld ci ⟨n225, 2⟩ fun (x227 : Int) =>
 deref d fun q228 =>
 lo cp q228 6 fun (x229 : Option Pt) =>
 call Tryz.prog N_bbr_Model_State [vp x229] [.agg K_i2u6b2] fun (r230 : T_i2u6b2) =>
 chk ⟨n225, 2⟩ (Ks.mk ci x227) <|
 chk ⟨n225, 3⟩ (Ks.mk cu x226) <|
 call Tryz.prog N_delay_Of [vi x227, vu r230.2.2.1] [qu] fun (r231 : Int) =>
 chk ⟨n225, 3⟩ (Ks.mk cu x226) <|
 call Tryz.prog N_sat_Add [vu x226, vu r231] [qu] fun (r232 : Int) =>
 deref d fun q233 =>
 so q233 8 [.int .u64 r232] <|
 drw <|
 deref d fun q234 =>
 ld ci ⟨n225, 2⟩ fun (x235 : Int) =>
 lo cu q234 7 fun (x236 : Int) =>
 deref d fun q237 =>
 so q237 7 [.int .u64 (IntKind.u64.wrap (x236 + (IntKind.u64.wrap x235)))] <|
 ld K_iuiub ⟨n225, 0⟩ fun (x238 : T_iuiub) =>
 st ⟨n1, 0⟩ (Ks.mk K_iuiub x238) <|
 ld K_iuiub ⟨n1, 0⟩ fun (x239 : T_iuiub) =>
 R (x239, (0:Int))
theorem call_sock_Sock_Emit (d : Option Pt) (o : Int) (R : Rs.T [.agg K_iuiub, qi] → WP) (w : World) (h : W_sock_Sock_Emit d o R w) : CW Tryz.prog N_sock_Sock_Emit [vp d, vu o] [.agg K_iuiub, qi] R w := cs Tryz.func66 (.s .o (.s (.s .o (.s (.s .o .o) .o)) (.s (.s .o (.s .o (.s (.s .o .o) .o))) (.s (.d (.f 0 [0] (.f 4 [1] (.f 5 [0] (.f 1 [20] (.f 2 [21] (.f 3 [22] (.wa 6 [25] (.wa 7 [23, 24, 26] (.w 8 [] (.w 9 [7, 27] .fin)) (.w 8 [] (.w 7 [23, 24, 26] (.w 9 [7, 27] .fin)))) (.w 8 [] (.w 6 [25] (.w 7 [23, 24, 26] (.w 9 [7, 27] .fin)))))))))))) (.s (.d (.f 0 [0] (.f 4 [7] (.f 1 [29] (.f 2 [30] (.f 3 [31] (.wa 5 [32, 33] (.f 6 [34] (.f 7 [28] (.f 8 [28] (.w 9 [] (.w 10 [8, 35] (.w 11 [36] .fin)))))) (.w 9 [] (.w 5 [32, 33] (.f 6 [34] (.f 7 [28] (.f 8 [28] (.w 10 [8, 35] (.w 11 [36] .fin)))))))))))))) (.j [] (.s .o (.s (.s (.d (.f 0 [0] (.f 4 [0] (.f 1 [40] (.f 2 [41] (.f 3 [42] (.w 5 [44] (.w 6 [43, 45] (.f 7 [46] (.f 8 [39] (.f 9 [39] (.w 10 [8, 47] .fin)))))))))))) (.d (.f 0 [0] (.f 4 [8] (.f 6 [8] (.f 8 [7] (.f 1 [49] (.f 5 [53] (.f 7 [55] (.f 2 [50] (.f 3 [51] (.w 9 [52, 54, 56, 57] .fin)))))))))))) .o)) (.s (.d (.f 0 [0] (.f 4 [8] (.f 6 [8] (.f 8 [8] (.f 12 [1] (.f 13 [0] (.f 18 [9] (.f 1 [59] (.f 5 [63] (.f 7 [65] (.f 9 [67] (.f 14 [72] (.f 2 [60] (.f 10 [66, 68] (.f 15 [73] (.f 3 [61] (.f 11 [69] (.f 16 [74] (.f 17 [71, 75] (.f 19 [62, 64, 70, 76, 77] (.w 20 [] (.w 21 [10, 78] .fin))))))))))))))))))))))) (.s (.d (.f 0 [0] (.f 1 [10] (.f 3 [10] (.f 5 [0] (.f 2 [80] (.f 4 [82] (.f 6 [84] (.f 7 [85] (.f 8 [86] (.w 9 [87] (.f 10 [88] (.w 11 [83, 89] (.w 12 [81, 90] (.f 13 [79] (.f 14 [92] (.w 15 [91, 93] .fin))))))))))))))))) (.s (.d (.f 0 [0] (.f 4 [10] (.f 1 [94] (.f 5 [98] (.f 2 [95] (.f 6 [99] (.f 3 [96] (.f 7 [97, 100] (.f 8 [94] (.f 9 [102] (.w 10 [101, 103] .fin)))))))))))) (.s .o .o)))))))))) h (by kernel_rfl)
def W_sock_Sock_Flight (s : Option Pt) (R : Rs.T [qu] → WP) : WP :=
 ite' s.isNone (
 R (0:Int)) <|
 deref s fun q1 =>
 lo cp q1 4 fun (x2 : Option Pt) =>
 call Tryz.prog N_board_Board_Flight [vp x2] [qu] fun (r3 : Int) =>
 R r3
theorem call_sock_Sock_Flight (s : Option Pt) (R : Rs.T [qu] → WP) (w : World) (h : W_sock_Sock_Flight s R w) : CW Tryz.prog N_sock_Sock_Flight [vp s] [qu] R w := cs Tryz.func98 (.s .o (.s (.s .o (.s (.s .o .o) .o)) (.s .o .o))) h (by kernel_rfl)
def W_sock_Sock_Lose (s : Option Pt) (now : Int) (R : Rs.T [qi] → WP) : WP :=
 ite' s.isNone (
 R (2:Int)) <|
 deref s fun q1 =>
 lo cp q1 4 fun (x2 : Option Pt) =>
 call Tryz.prog N_board_Board_Lose [vp x2] [qu] fun (r3 : Int) =>
 call Tryz.prog N_sock_Sock_learn [vp s, vu now, vu r3] [] fun (r4 : Unit) =>
 R (0:Int)
theorem call_sock_Sock_Lose (s : Option Pt) (now : Int) (R : Rs.T [qi] → WP) (w : World) (h : W_sock_Sock_Lose s now R w) : CW Tryz.prog N_sock_Sock_Lose [vp s, vu now] [qi] R w := cs Tryz.func64 (.s .o (.s (.s .o (.s (.s .o .o) .o)) (.s .o (.s .o .o)))) h (by kernel_rfl)
def W_sock_Sock_Model (s : Option Pt) (R : Rs.T [.agg K_i2u6b2] → WP) : WP :=
 new [zi, zi, zu, zu, zu, zu, zu, zu, .bool false, .bool false] fun n1 =>
 ite' s.isNone (
 st ⟨n1, 0⟩ [zi, zi, zu, zu, zu, zu, zu, zu, .bool false, .bool false] <|
 ld K_i2u6b2 ⟨n1, 0⟩ fun (x2 : T_i2u6b2) =>
 R x2) <|
 deref s fun q3 =>
 lo cp q3 6 fun (x4 : Option Pt) =>
 call Tryz.prog N_bbr_Model_State [vp x4] [.agg K_i2u6b2] fun (r5 : T_i2u6b2) =>
 st ⟨n1, 0⟩ (Ks.mk K_i2u6b2 r5) <|
 ld K_i2u6b2 ⟨n1, 0⟩ fun (x6 : T_i2u6b2) =>
 R x6
theorem call_sock_Sock_Model (s : Option Pt) (R : Rs.T [.agg K_i2u6b2] → WP) (w : World) (h : W_sock_Sock_Model s R w) : CW Tryz.prog N_sock_Sock_Model [vp s] [.agg K_i2u6b2] R w := cs Tryz.func53 (.s .o (.s (.s .o (.s (.s .o .o) .o)) (.s .o .o))) h (by kernel_rfl)
def W_sock_Sock_Tso (s : Option Pt) (R : Rs.T [qi] → WP) : WP :=
 ite' s.isNone (
 R (0:Int)) <|
 drw <|
 deref s fun q1 =>
 deref s fun q2 =>
 lo cp q1 6 fun (x3 : Option Pt) =>
 lo ci q2 1 fun (x4 : Int) =>
 call Tryz.prog N_bbr_Model_State [vp x3] [.agg K_i2u6b2] fun (r5 : T_i2u6b2) =>
 ck q2 1 ci x4 <|
 call Tryz.prog N_tso_Size [vu r5.2.2.1, vi x4] [qi] fun (r6 : Int) =>
 R r6
theorem call_sock_Sock_Tso (s : Option Pt) (R : Rs.T [qi] → WP) (w : World) (h : W_sock_Sock_Tso s R w) : CW Tryz.prog N_sock_Sock_Tso [vp s] [qi] R w := cs Tryz.func101 (.s .o (.s (.s .o (.s (.s .o .o) .o)) (.s (.d (.f 0 [0] (.f 6 [0] (.f 1 [5] (.f 7 [11] (.f 2 [6] (.f 8 [12] (.f 3 [7] (.f 9 [13] (.w 4 [8] (.f 5 [9] (.w 10 [10, 14] (.w 11 [15] .fin))))))))))))) .o))) h (by kernel_rfl)
def W_sock_Sock_Write (s : Option Pt) (n : Int) (R : Rs.T [qi] → WP) : WP :=
 ite' s.isNone (
 R (2:Int)) <|
 deref s fun q1 =>
 lo cp q1 3 fun (x2 : Option Pt) =>
 call Tryz.prog N_buffer_Buffer_Write [vp x2, vi n] [qi] fun (r3 : Int) =>
 R r3
theorem call_sock_Sock_Write (s : Option Pt) (n : Int) (R : Rs.T [qi] → WP) (w : World) (h : W_sock_Sock_Write s n R w) : CW Tryz.prog N_sock_Sock_Write [vp s, vi n] [qi] R w := cs Tryz.func62 (.s .o (.s (.s .o (.s (.s .o .o) .o)) (.s .o .o))) h (by kernel_rfl)
def W_sock_Sock_learn (s : Option Pt) (now : Int) (lost : Int) (R : Rs.T [] → WP) : WP :=
 drw <|
 deref s fun q1 =>
 deref s fun q2 =>
 lo cp q1 6 fun (x3 : Option Pt) =>
 lo cp q2 5 fun (x4 : Option Pt) =>
 call Tryz.prog N_sock_Sock_Flight [vp s] [qu] fun (r5 : Int) =>
 ck q2 5 cp x4 <|
 ck q1 6 cp x3 <|
 call Tryz.prog N_sampler_Sampler_Take [vp x4, vu now, vu lost, vu r5] [.agg K_u8b] fun (r6 : T_u8b) =>
 ck q1 6 cp x3 <|
 call Tryz.prog N_sock_Sock_Tso [vp s] [qi] fun (r7 : Int) =>
 ck q1 6 cp x3 <|
 call Tryz.prog N_bbr_Model_Update [vp x3, .agg (Ks.mk K_u8b r6), .lf (.int .u64 (IntKind.u64.wrap r7))] [.agg K_i2u6b2] fun (r8 : T_i2u6b2) =>
 R ()
theorem call_sock_Sock_learn (s : Option Pt) (now : Int) (lost : Int) (R : Rs.T [] → WP) (w : World) (h : W_sock_Sock_learn s now lost R w) : CW Tryz.prog N_sock_Sock_learn [vp s, vu now, vu lost] [] R w := cs Tryz.func94 (.d (.f 0 [0] (.f 4 [0] (.f 8 [1] (.f 9 [2] (.f 10 [0] (.f 13 [0] (.f 1 [6] (.f 5 [10] (.f 2 [7] (.f 6 [11] (.f 3 [8] (.f 7 [12] (.w 11 [16] (.w 12 [13, 14, 15, 17] (.w 14 [19] (.f 15 [20] (.w 16 [9, 18, 21] .fin)))))))))))))))))) h (by kernel_rfl)
def W_sock_Sock_may (d : Option Pt) (R : Rs.T [qi] → WP) : WP :=
 deref d fun q1 =>
 lo cp q1 4 fun (x2 : Option Pt) =>
 call Tryz.prog N_board_Board_Lost [vp x2] [.agg [.int .u64, .int .u64], qb] fun (r3 : (Int × Int) × Bool) =>
 new [zu, zu] fun n4 =>
 st ⟨n4, 0⟩ (Ks.mk cr r3.1) <|
 deref d fun q5 =>
 lo cp q5 6 fun (x6 : Option Pt) =>
 call Tryz.prog N_bbr_Model_State [vp x6] [.agg K_i2u6b2] fun (r7 : T_i2u6b2) =>
 new [zi, zi, zu, zu, zu, zu, zu, zu, .bool false, .bool false] fun n8 =>
 st ⟨n8, 0⟩ (Ks.mk K_i2u6b2 r7) <|
 drw <|
 ld cu ⟨n8, 3⟩ fun (x9 : Int) =>
 call Tryz.prog N_sock_Sock_Flight [vp d] [qu] fun (r10 : Int) =>
 chk ⟨n8, 3⟩ (Ks.mk cu x9) <|
 join cb (fun J11 =>
 ite' (!r3.2) (
 deref d fun q13 =>
 lo cp q13 3 fun (x14 : Option Pt) =>
 call Tryz.prog N_buffer_Buffer_Unsent [vp x14] [qu] fun (r15 : Int) =>
 J11 (r15 == (0:Int))) <|
 J11 false) fun (y12 : Bool) =>
 ite' y12 (
 ite' (decide (r10 < x9)) (
 drw <|
 deref d fun q16 =>
 lo cp q16 5 fun (x17 : Option Pt) =>
 call Tryz.prog N_sock_Sock_Flight [vp d] [qu] fun (r18 : Int) =>
 ck q16 5 cp x17 <|
 call Tryz.prog N_sampler_Sampler_Limit [vp x17, vu r18] [] fun (r19 : Unit) =>
 R (7:Int)) <|
 R (7:Int)) <|
 join cb (fun J20 =>
 drw <|
 ite' (!(decide (r10 < x9))) (
 J20 true) <|
 deref d fun q22 =>
 ld cu ⟨n8, 2⟩ fun (x23 : Int) =>
 deref d fun q24 =>
 lo cu q22 7 fun (x25 : Int) =>
 lo ci q24 2 fun (x26 : Int) =>
 call Tryz.prog N_sock_Sock_Tso [vp d] [qi] fun (r27 : Int) =>
 ck q24 2 ci x26 <|
 ck q22 7 cu x25 <|
 chk ⟨n8, 2⟩ (Ks.mk cu x23) <|
 call Tryz.prog N_tsq_Limit [vu x23, vi r27, vi x26] [qu] fun (r28 : Int) =>
 ck q22 7 cu x25 <|
 call Tryz.prog N_tsq_May [vu x25, vu r28] [qb] fun (r29 : Bool) =>
 J20 (!r29)) fun (y21 : Bool) =>
 ite' y21 (
 R (5:Int)) <|
 ite' (!r3.2) (
 deref d fun q30 =>
 lo cp q30 4 fun (x31 : Option Pt) =>
 call Tryz.prog N_board_Board_Len [vp x31] [qi] fun (r32 : Int) =>
 ite' (decide (r32 ≥ (4096:Int))) (
 R (5:Int)) <|
 R (0:Int)) <|
 R (0:Int)
theorem call_sock_Sock_may (d : Option Pt) (R : Rs.T [qi] → WP) (w : World) (h : W_sock_Sock_may d R w) : CW Tryz.prog N_sock_Sock_may [vp d] [qi] R w := cs Tryz.func96 (.s .o (.s .o (.s .o (.s (.d (.f 0 [0] (.f 2 [5] (.f 3 [22] (.w 1 [20] (.f 4 [21, 23] (.w 5 [24] .fin))))))) (.s (.b (.j [(25, qb)] .o (.s (.s (.s .o (.s (.d (.f 0 [0] (.f 4 [0] (.f 1 [37] (.f 2 [38] (.f 3 [39] (.w 5 [41] (.w 6 [40, 42] .fin)))))))) .o)) (.s .o .o)) (.j [(44, qb)] (.d (.f 0 [6] (.f 1 [45] (.f 2 [46] (.f 3 [0, 47] (.f 7 [5, 47] (.f 9 [0, 47] (.f 11 [0, 47] (.f 4 [47, 48] (.f 8 [47, 52] (.f 12 [47, 56] (.f 5 [47, 49] (.f 13 [47, 57] (.f 6 [47, 50] (.f 14 [47, 58] (.w 10 [47, 54] (.w 15 [47, 53, 55, 59] (.w 16 [47, 51, 60] (.f 17 [47, 61] (.f 18 [47, 62] (.w 19 [63] .fin))))))))))))))))))))) (.s (.s .o .o) (.s .o (.s (.s .o .o) .o))))))) (.s .o .o)))))) h (by kernel_rfl)
def W_target_Bdp (bw : Int) (rtt : Int) (gain : Int) (R : Rs.T [qu] → WP) : WP :=
 new [.int .u64 rtt, .int .u64 (1000000000:Int), .int .u64 gain, .int .u64 (256:Int)] fun n1 =>
 call Tryz.prog N_target_scaled [vu bw, .lf (.sl ⟨some ⟨n1, 0⟩, 2, 2⟩)] [qu] fun (r2 : Int) =>
 R r2
theorem call_target_Bdp (bw : Int) (rtt : Int) (gain : Int) (R : Rs.T [qu] → WP) (w : World) (h : W_target_Bdp bw rtt gain R w) : CW Tryz.prog N_target_Bdp [vu bw, vu rtt, vu gain] [qu] R w := cs Tryz.func185 (.s .o (.s .o .o)) h (by kernel_rfl)
def W_target_Rate (bw : Int) (gain : Int) (R : Rs.T [qu] → WP) : WP :=
 new [.int .u64 gain, .int .u64 (256:Int)] fun n1 =>
 call Tryz.prog N_target_scaled [vu bw, .lf (.sl ⟨some ⟨n1, 0⟩, 1, 1⟩)] [qu] fun (r2 : Int) =>
 R r2
theorem call_target_Rate (bw : Int) (gain : Int) (R : Rs.T [qu] → WP) (w : World) (h : W_target_Rate bw gain R w) : CW Tryz.prog N_target_Rate [vu bw, vu gain] [qu] R w := cs Tryz.func86 (.s .o (.s .o .o)) h (by kernel_rfl)
def W_target_Window (bw : Int) (rtt : Int) (gain : Int) (tso : Int) (mss : Int) (R : Rs.T [qu] → WP) : WP :=
 ite' (rtt == (0:Int)) (
 call Tryz.prog N_sat_Mul [.lf (.int .u64 (10:Int)), vu mss] [qu] fun (r1 : Int) =>
 R r1) <|
 call Tryz.prog N_target_Bdp [vu bw, vu rtt, vu gain] [qu] fun (r2 : Int) =>
 call Tryz.prog N_sat_Mul [.lf (.int .u64 (3:Int)), vu tso] [qu] fun (r3 : Int) =>
 call Tryz.prog N_sat_Add [vu r2, vu r3] [qu] fun (r4 : Int) =>
 call Tryz.prog N_sat_Mul [.lf (.int .u64 (4:Int)), vu mss] [qu] fun (r5 : Int) =>
 R (if r5 > r4 then r5 else r4)
theorem call_target_Window (bw : Int) (rtt : Int) (gain : Int) (tso : Int) (mss : Int) (R : Rs.T [qu] → WP) (w : World) (h : W_target_Window bw rtt gain tso mss R w) : CW Tryz.prog N_target_Window [vu bw, vu rtt, vu gain, vu tso, vu mss] [qu] R w := cs Tryz.func190 (.s .o (.s (.s .o (.s (.s .o .o) .o)) (.s .o .o))) h (by kernel_rfl)
def W_target_scaled (v : Int) (l : Sl) (R : Rs.T [qu] → WP) : WP :=
 loop [.int .u64, .int .i64] (v, (0:Int)) fun J1 (y2 : Int × Int) =>
 ite' (decide (y2.2 < ((l.len : Nat) : Int))) (
 idx l y2.2 2 fun q3 =>
 ld cr q3 fun (x4 : Int × Int) =>
 new [zu, zu] fun n5 =>
 st ⟨n5, 0⟩ (Ks.mk cr x4) <|
 ite' (y2.1 == (0:Int)) (
 R y2.1) <|
 req (0 ≤ (0:Int) ∧ (0:Int) < 2) <|
 ld cu ⟨n5, 0 + (0:Int).toNat * 1⟩ fun (x6 : Int) =>
 req (0 ≤ (1:Int) ∧ (1:Int) < 2) <|
 ld cu ⟨n5, 0 + (1:Int).toNat * 1⟩ fun (x7 : Int) =>
 call Tryz.prog N_wide_MulDiv [vu y2.1, vu x6, vu x7] [qu] fun (r8 : Int) =>
 J1 (r8, (IntKind.i64.wrap (y2.2 + (1:Int))))) <|
 R y2.1
theorem call_target_scaled (v : Int) (l : Sl) (R : Rs.T [qu] → WP) (w : World) (h : W_target_scaled v l R w) : CW Tryz.prog N_target_scaled [vu v, .lf (.sl l)] [qu] R w := cs Tryz.func126 (.s .o (.s .o (.s (.s .o (.b (.l [(0, qu), (9, qi)] (.s .o (.s (.s .o .o) (.s (.b (.s .o (.s (.s .o (.s .o .o)) .o))) .o)))))) (.s .o .o)))) h (by kernel_rfl)
def W_tso_Size (rate : Int) (mss : Int) (R : Rs.T [qi] → WP) : WP :=
 req ((IntKind.u64.wrap (if (9000:Int) < (if (100:Int) > mss then (100:Int) else mss) then (9000:Int) else (if (100:Int) > mss then (100:Int) else mss))) ≠ 0) <|
 loop cu (IntKind.u64.wrap ((IntKind.u64.wrap (rate.tdiv (1024:Int))).tdiv (IntKind.u64.wrap (if (9000:Int) < (if (100:Int) > mss then (100:Int) else mss) then (9000:Int) else (if (100:Int) > mss then (100:Int) else mss))))) fun J1 (y2 : Int) =>
 ite' (decide (y2 < (2:Int))) (
 J1 (2:Int)) <|
 req ((IntKind.u64.wrap (if (9000:Int) < (if (100:Int) > mss then (100:Int) else mss) then (9000:Int) else (if (100:Int) > mss then (100:Int) else mss))) ≠ 0) <|
 ite' (decide (y2 > (IntKind.u64.wrap ((65536:Int).tdiv (IntKind.u64.wrap (if (9000:Int) < (if (100:Int) > mss then (100:Int) else mss) then (9000:Int) else (if (100:Int) > mss then (100:Int) else mss))))))) (
 req ((IntKind.u64.wrap (if (9000:Int) < (if (100:Int) > mss then (100:Int) else mss) then (9000:Int) else (if (100:Int) > mss then (100:Int) else mss))) ≠ 0) <|
 J1 (IntKind.u64.wrap ((65536:Int).tdiv (IntKind.u64.wrap (if (9000:Int) < (if (100:Int) > mss then (100:Int) else mss) then (9000:Int) else (if (100:Int) > mss then (100:Int) else mss)))))) <|
 R (IntKind.i64.wrap (IntKind.u64.wrap (y2 * (IntKind.u64.wrap (if (9000:Int) < (if (100:Int) > mss then (100:Int) else mss) then (9000:Int) else (if (100:Int) > mss then (100:Int) else mss))))))
theorem call_tso_Size (rate : Int) (mss : Int) (R : Rs.T [qi] → WP) (w : World) (h : W_tso_Size rate mss R w) : CW Tryz.prog N_tso_Size [vu rate, vi mss] [qi] R w := cs Tryz.func143 (.s .o (.s .o (.s .o (.s .o (.s (.b (.l [(6, qu)] (.b (.b (.s .o (.s .o (.s .o (.s .o .o)))))))) (.s .o .o)))))) h (by kernel_rfl)
def W_tsq_Limit (rate : Int) (tso : Int) (most : Int) (R : Rs.T [qu] → WP) : WP :=
 loop [.int .u64, .int .i64] ((0:Int), (0:Int)) fun J1 (y2 : Int × Int) =>
 ite' (decide (y2.2 < (2:Int))) (
 ixa [.int .u64] [.int .u64 (IntKind.u64.wrap ((2:Int) * (IntKind.u64.wrap (if (0:Int) > tso then (0:Int) else tso)))), .int .u64 (if (IntKind.u64.wrap (if (0:Int) > most then (0:Int) else most)) < (IntKind.u64.wrap (rate.tdiv (1024:Int))) then (IntKind.u64.wrap (if (0:Int) > most then (0:Int) else most)) else (IntKind.u64.wrap (rate.tdiv (1024:Int))))] y2.2 2 1 fun (x3 : Int) =>
 ite' (decide (x3 ≤ y2.1)) (
 J1 (y2.1, (IntKind.i64.wrap (y2.2 + (1:Int))))) <|
 J1 (x3, (IntKind.i64.wrap (y2.2 + (1:Int))))) <|
 R y2.1
theorem call_tsq_Limit (rate : Int) (tso : Int) (most : Int) (R : Rs.T [qu] → WP) (w : World) (h : W_tsq_Limit rate tso most R w) : CW Tryz.prog N_tsq_Limit [vu rate, vi tso, vi most] [qu] R w := cs Tryz.func139 (.s .o (.s .o (.s .o (.s (.s .o (.b (.l [(7, qu), (21, qi)] (.s .o (.s (.s .o .o) (.s (.b (.s .o (.s (.s .o (.s .o .o)) .o))) .o)))))) (.s .o .o))))) h (by kernel_rfl)
def W_tsq_May (out : Int) (limit : Int) (R : Rs.T [qb] → WP) : WP :=
 R (decide (out < limit))
theorem call_tsq_May (out : Int) (limit : Int) (R : Rs.T [qb] → WP) (w : World) (h : W_tsq_May out limit R w) : CW Tryz.prog N_tsq_May [vu out, vu limit] [qb] R w := cs Tryz.func138 (.s .o (.s .o .o)) h (by kernel_rfl)
def W_wide_Div (hi : Int) (lo : Int) (c : Int) (R : Rs.T [qu, qi] → WP) : WP :=
 ite' (c == (0:Int)) (
 R ((0:Int), (1:Int))) <|
 ite' (decide (hi ≥ c)) (
 R ((0:Int), (3:Int))) <|
 loop K_u3i (hi, lo, (0:Int), (0:Int)) fun J1 (y2 : T_u3i) =>
 ite' (y2.2.2.2 == (64:Int)) (
 R (y2.2.2.1, (0:Int))) <|
 req (0 ≤ (63:Int)) <|
 req (0 ≤ (1:Int)) <|
 req (0 ≤ (63:Int)) <|
 req (0 ≤ (1:Int)) <|
 req (0 ≤ (1:Int)) <|
 ite' (((y2.1.fdiv (2 ^ min (63:Int).toNat IntKind.u64.bits)) == (0:Int)) && (decide ((IntKind.u64.wrap (BitVec.ofInt IntKind.u64.bits (IntKind.u64.wrap (y2.1 * 2 ^ min (1:Int).toNat IntKind.u64.bits)) ||| BitVec.ofInt IntKind.u64.bits (y2.2.1.fdiv (2 ^ min (63:Int).toNat IntKind.u64.bits))).toNat) < c))) (
 J1 ((IntKind.u64.wrap (BitVec.ofInt IntKind.u64.bits (IntKind.u64.wrap (y2.1 * 2 ^ min (1:Int).toNat IntKind.u64.bits)) ||| BitVec.ofInt IntKind.u64.bits (y2.2.1.fdiv (2 ^ min (63:Int).toNat IntKind.u64.bits))).toNat), (IntKind.u64.wrap (y2.2.1 * 2 ^ min (1:Int).toNat IntKind.u64.bits)), (IntKind.u64.wrap (y2.2.2.1 * 2 ^ min (1:Int).toNat IntKind.u64.bits)), (IntKind.i64.wrap (y2.2.2.2 + (1:Int))))) <|
 J1 ((IntKind.u64.wrap ((IntKind.u64.wrap (BitVec.ofInt IntKind.u64.bits (IntKind.u64.wrap (y2.1 * 2 ^ min (1:Int).toNat IntKind.u64.bits)) ||| BitVec.ofInt IntKind.u64.bits (y2.2.1.fdiv (2 ^ min (63:Int).toNat IntKind.u64.bits))).toNat) - c)), (IntKind.u64.wrap (y2.2.1 * 2 ^ min (1:Int).toNat IntKind.u64.bits)), (IntKind.u64.wrap (BitVec.ofInt IntKind.u64.bits (IntKind.u64.wrap (y2.2.2.1 * 2 ^ min (1:Int).toNat IntKind.u64.bits)) ||| BitVec.ofInt IntKind.u64.bits (1:Int)).toNat), (IntKind.i64.wrap (y2.2.2.2 + (1:Int))))
theorem call_wide_Div (hi : Int) (lo : Int) (c : Int) (R : Rs.T [qu, qi] → WP) (w : World) (h : W_wide_Div hi lo c R w) : CW Tryz.prog N_wide_Div [vu hi, vu lo, vu c] [qu, qi] R w := cs Tryz.func155 (.s .o (.s (.b (.s .o (.s (.s .o .o) (.s .o (.s (.s .o .o) .o))))) (.s .o (.s .o (.s .o (.s (.b (.l [(0, qu), (1, qu), (8, qu), (9, qi)] (.b (.s (.s .o (.s .o .o)) (.s .o (.s .o (.s .o (.s (.s .o (.s .o .o)) .o)))))))) (.s .o .o))))))) h (by kernel_rfl)
def W_wide_Mul (a : Int) (b : Int) (R : Rs.T [qu, qu] → WP) : WP :=
 call Tryz.prog N_math_bits_Mul64 [vu a, vu b] [qu, qu] fun (r1 : Int × Int) =>
 R (r1.1, r1.2)
theorem call_wide_Mul (a : Int) (b : Int) (R : Rs.T [qu, qu] → WP) (w : World) (h : W_wide_Mul a b R w) : CW Tryz.prog N_wide_Mul [vu a, vu b] [qu, qu] R w := cs Tryz.func154 (.s .o (.s .o .o)) h (by kernel_rfl)
def W_wide_MulDiv (a : Int) (b : Int) (c : Int) (R : Rs.T [qu] → WP) : WP :=
 call Tryz.prog N_wide_Mul [vu a, vu b] [qu, qu] fun (r1 : Int × Int) =>
 ite' ((r1.1 == (0:Int)) && (r1.2 == (0:Int))) (
 R (0:Int)) <|
 call Tryz.prog N_wide_Div [vu r1.1, vu r1.2, vu c] [qu, qi] fun (r2 : Int × Int) =>
 ite' (r2.2 != (0:Int)) (
 R (18446744073709551615:Int)) <|
 R r2.1
theorem call_wide_MulDiv (a : Int) (b : Int) (c : Int) (R : Rs.T [qu] → WP) (w : World) (h : W_wide_MulDiv a b c R w) : CW Tryz.prog N_wide_MulDiv [vu a, vu b, vu c] [qu] R w := cs Tryz.func118 (.s .o (.s .o (.s (.s .o (.s (.s .o .o) .o)) (.s .o (.s (.s .o (.s (.s .o .o) .o)) (.s .o .o)))))) h (by kernel_rfl)
def W_winmax_Max_Best (m : Option Pt) (R : Rs.T [qu] → WP) : WP :=
 ite' m.isNone (
 R (0:Int)) <|
 deref m fun q1 =>
 req (0 ≤ (0:Int) ∧ (0:Int) < 3) <|
 ld cu ⟨q1.b, q1.o + 1 + (0:Int).toNat * 2 + 1⟩ fun (x2 : Int) =>
 R x2
theorem call_winmax_Max_Best (m : Option Pt) (R : Rs.T [qu] → WP) (w : World) (h : W_winmax_Max_Best m R w) : CW Tryz.prog N_winmax_Max_Best [vp m] [qu] R w := cs Tryz.func157 (.s .o (.s (.s .o (.s (.s .o .o) .o)) (.s .o .o))) h (by kernel_rfl)
def W_winmax_Max_Reset (m : Option Pt) (t : Int) (v : Int) (R : Rs.T [] → WP) : WP :=
 ite' m.isNone (
 R ()) <|
 deref m fun q1 =>
 lo cu q1 7 fun (x2 : Int) =>
 deref m fun q3 =>
 so q3 7 [.int .u64 (if t > x2 then t else x2)] <|
 call Tryz.prog N_winmax_Max_all [vp m, .lf (zi), .agg [.int .u64 t, .int .u64 v]] [] fun (r4 : Unit) =>
 R ()
theorem call_winmax_Max_Reset (m : Option Pt) (t : Int) (v : Int) (R : Rs.T [] → WP) (w : World) (h : W_winmax_Max_Reset m t v R w) : CW Tryz.prog N_winmax_Max_Reset [vp m, vu t, vu v] [] R w := cs Tryz.func196 (.s (.s .o (.s .o .o)) (.s .o .o)) h (by kernel_rfl)
def W_winmax_Max_Update (d : Option Pt) (o : Int) (a : Int) (R : Rs.T [qu] → WP) : WP :=
 ite' d.isNone (
 R (0:Int)) <|
 deref d fun q1 =>
 lo cu q1 7 fun (x2 : Int) =>
 deref d fun q3 =>
 so q3 7 [.int .u64 (if o > x2 then o else x2)] <|
 deref d fun q4 =>
 lo cu q4 7 fun (x5 : Int) =>
 new [zu, zu] fun n6 =>
 st ⟨n6, 0⟩ [.int .u64 x5, .int .u64 a] <|
 join cb (fun J7 =>
 drw <|
 deref d fun q9 =>
 req (0 ≤ (0:Int) ∧ (0:Int) < 3) <|
 ld cu ⟨q9.b, q9.o + 1 + (0:Int).toNat * 2 + 1⟩ fun (x10 : Int) =>
 ite' (decide (a ≥ x10)) (
 J7 true) <|
 ld cu ⟨n6, 0⟩ fun (x11 : Int) =>
 deref d fun q12 =>
 deref d fun q13 =>
 req (0 ≤ (2:Int) ∧ (2:Int) < 3) <|
 ld cu q13 fun (x14 : Int) =>
 ld cr ⟨q12.b, q12.o + 1 + (2:Int).toNat * 2⟩ fun (x15 : Int × Int) =>
 call Tryz.prog N_winmax_near [vu x11, .agg (Ks.mk cr x15), vu x14] [qb] fun (r16 : Bool) =>
 J7 (!r16)) fun (y8 : Bool) =>
 ite' y8 (
 ld cu ⟨n6, 0⟩ fun (x17 : Int) =>
 call Tryz.prog N_winmax_Max_Reset [vp d, vu x17, vu a] [] fun (r18 : Unit) =>
 R a) <|
 join [] (fun J19 =>
 loop ci (0:Int) fun J21 (y22 : Int) =>
 ite' (decide (y22 < (3:Int))) (
 join cb (fun J23 =>
 ite' (decide (y22 > (0:Int))) (
 deref d fun q25 =>
 req (0 ≤ y22 ∧ y22 < 3) <|
 ld cu ⟨q25.b, q25.o + 1 + y22.toNat * 2 + 1⟩ fun (x26 : Int) =>
 J23 (decide (a ≥ x26))) <|
 J23 false) fun (y24 : Bool) =>
 ite' y24 (
 ld cr ⟨n6, 0⟩ fun (x27 : Int × Int) =>
 call Tryz.prog N_winmax_Max_all [vp d, vi y22, .agg (Ks.mk cr x27)] [] fun (r28 : Unit) =>
 J19 ()) <|
 J21 (IntKind.i64.wrap (y22 + (1:Int)))) <|
 J19 ()) fun (y20 : Unit) =>
 join [] (fun J29 =>
 drw <|
 ld cu ⟨n6, 0⟩ fun (x31 : Int) =>
 deref d fun q32 =>
 deref d fun q33 =>
 req (0 ≤ (0:Int) ∧ (0:Int) < 3) <|
 ld cu q33 fun (x34 : Int) =>
 ld cr ⟨q32.b, q32.o + 1 + (0:Int).toNat * 2⟩ fun (x35 : Int × Int) =>
 call Tryz.prog N_winmax_near [vu x31, .agg (Ks.mk cr x35), vu x34] [qb] fun (r36 : Bool) =>
 ite' (!r36) (
 ld cr ⟨n6, 0⟩ fun (x37 : Int × Int) =>
 call Tryz.prog N_winmax_Max_push [vp d, .agg (Ks.mk cr x37)] [] fun (r38 : Unit) =>
 drw <|
 ld cu ⟨n6, 0⟩ fun (x39 : Int) =>
 deref d fun q40 =>
 deref d fun q41 =>
 req (0 ≤ (0:Int) ∧ (0:Int) < 3) <|
 ld cu q41 fun (x42 : Int) =>
 ld cr ⟨q40.b, q40.o + 1 + (0:Int).toNat * 2⟩ fun (x43 : Int × Int) =>
 call Tryz.prog N_winmax_near [vu x39, .agg (Ks.mk cr x43), vu x42] [qb] fun (r44 : Bool) =>
 ite' (!r44) (
 ld cr ⟨n6, 0⟩ fun (x45 : Int × Int) =>
 call Tryz.prog N_winmax_Max_push [vp d, .agg (Ks.mk cr x45)] [] fun (r46 : Unit) =>
 J29 ()) <|
 J29 ()) <|
 join cb (fun J47 =>
 drw <|
 deref d fun q49 =>
 deref d fun q50 =>
 req (0 ≤ (1:Int) ∧ (1:Int) < 3) <|
 req (0 ≤ (0:Int) ∧ (0:Int) < 3) <|
 ld cu ⟨q49.b, q49.o + 1 + (1:Int).toNat * 2⟩ fun (x51 : Int) =>
 ld cu ⟨q50.b, q50.o + 1 + (0:Int).toNat * 2⟩ fun (x52 : Int) =>
 ite' (x51 == x52) (
 ld cu ⟨n6, 0⟩ fun (x53 : Int) =>
 deref d fun q54 =>
 deref d fun q55 =>
 req (0 ≤ (0:Int) ∧ (0:Int) < 3) <|
 ld cu q55 fun (x56 : Int) =>
 ld cr ⟨q54.b, q54.o + 1 + (0:Int).toNat * 2⟩ fun (x57 : Int × Int) =>
 call Tryz.prog N_winmax_near [vu x53, .agg (Ks.mk cr x57), .lf (.int .u64 (IntKind.u64.wrap (x56.tdiv (4:Int))))] [qb] fun (r58 : Bool) =>
 J47 (!r58)) <|
 J47 false) fun (y48 : Bool) =>
 ite' y48 (
 ld cr ⟨n6, 0⟩ fun (x59 : Int × Int) =>
 call Tryz.prog N_winmax_Max_all [vp d, .lf (.int .i64 (1:Int)), .agg (Ks.mk cr x59)] [] fun (r60 : Unit) =>
 J29 ()) <|
 join cb (fun J61 =>
 drw <|
 deref d fun q63 =>
 deref d fun q64 =>
 req (0 ≤ (2:Int) ∧ (2:Int) < 3) <|
 req (0 ≤ (1:Int) ∧ (1:Int) < 3) <|
 ld cu ⟨q63.b, q63.o + 1 + (2:Int).toNat * 2⟩ fun (x65 : Int) =>
 ld cu ⟨q64.b, q64.o + 1 + (1:Int).toNat * 2⟩ fun (x66 : Int) =>
 ite' (x65 == x66) (
 ld cu ⟨n6, 0⟩ fun (x67 : Int) =>
 deref d fun q68 =>
 deref d fun q69 =>
 req (0 ≤ (0:Int) ∧ (0:Int) < 3) <|
 ld cu q69 fun (x70 : Int) =>
 ld cr ⟨q68.b, q68.o + 1 + (0:Int).toNat * 2⟩ fun (x71 : Int × Int) =>
 call Tryz.prog N_winmax_near [vu x67, .agg (Ks.mk cr x71), .lf (.int .u64 (IntKind.u64.wrap (x70.tdiv (2:Int))))] [qb] fun (r72 : Bool) =>
 J61 (!r72)) <|
 J61 false) fun (y62 : Bool) =>
 ite' y62 (
 ld cr ⟨n6, 0⟩ fun (x73 : Int × Int) =>
 call Tryz.prog N_winmax_Max_all [vp d, .lf (.int .i64 (2:Int)), .agg (Ks.mk cr x73)] [] fun (r74 : Unit) =>
 J29 ()) <|
 J29 ()) fun (y30 : Unit) =>
 deref d fun q75 =>
 req (0 ≤ (0:Int) ∧ (0:Int) < 3) <|
 ld cu ⟨q75.b, q75.o + 1 + (0:Int).toNat * 2 + 1⟩ fun (x76 : Int) =>
 R x76
theorem call_winmax_Max_Update (d : Option Pt) (o : Int) (a : Int) (R : Rs.T [qu] → WP) (w : World) (h : W_winmax_Max_Update d o a R w) : CW Tryz.prog N_winmax_Max_Update [vp d, vu o, vu a] [qu] R w := cs Tryz.func182 (.s .o (.s (.s .o (.s (.s .o .o) .o)) (.s .o (.s .o (.s (.j [(48, qb)] (.d (.f 0 [2] (.f 1 [0] (.f 2 [27] (.f 3 [28] (.f 4 [29] (.f 5 [30] (.f 6 [31] (.f 7 [26, 32] (.f 8 [33] (.f 9 [7, 34] (.f 11 [0, 34] (.f 16 [0, 34] (.f 10 [34, 35] (.f 12 [34, 37] (.f 17 [34, 42] (.f 13 [34, 38] (.f 18 [34, 43] (.f 14 [34, 39] (.f 19 [34, 44] (.f 15 [34, 40] (.w 20 [34, 36, 41, 45] (.f 21 [34, 46] (.f 22 [34, 47] .fin)))))))))))))))))))))))) (.s (.s .o (.s .o .o)) .o)) (.s .o (.j [] (.s .o (.b (.l [(55, qi)] (.s .o (.s (.s .o .o) (.s (.b (.s .o (.j [(70, qb)] .o (.s (.s .o .o) .o)))) .o)))))) (.j [] (.b (.s (.d (.f 0 [7] (.f 2 [0] (.f 7 [0] (.f 1 [77] (.f 3 [79] (.f 8 [84] (.f 4 [80] (.f 9 [85] (.f 5 [81] (.f 10 [86] (.f 6 [82] (.w 11 [78, 83, 87] (.f 12 [88] (.w 13 [89] .fin))))))))))))))) (.s (.s .o (.s (.d (.f 0 [7] (.f 2 [0] (.f 7 [0] (.f 1 [93] (.f 3 [95] (.f 8 [100] (.f 4 [96] (.f 9 [101] (.f 5 [97] (.f 10 [102] (.f 6 [98] (.w 11 [94, 99, 103] (.f 12 [104] .fin)))))))))))))) (.s .o .o))) (.j [(109, qb)] (.d (.f 0 [0] (.f 6 [0] (.f 1 [110] (.f 7 [116] (.f 2 [111] (.f 8 [117] (.f 3 [112] (.f 9 [118] (.f 4 [113] (.f 10 [119] (.f 5 [114] (.f 11 [120] (.f 12 [115, 121] (.f 13 [122] (.f 14 [7, 123] (.f 16 [0, 123] (.f 21 [0, 123] (.f 15 [123, 124] (.f 17 [123, 126] (.f 22 [123, 131] (.f 18 [123, 127] (.f 23 [123, 132] (.f 19 [123, 128] (.f 24 [123, 133] (.f 20 [123, 129] (.f 25 [123, 134] (.w 26 [123, 125, 130, 135] (.f 27 [123, 136] (.f 28 [123, 137] (.w 29 [138] .fin))))))))))))))))))))))))))))))) (.s .o (.j [(142, qb)] (.d (.f 0 [0] (.f 6 [0] (.f 1 [143] (.f 7 [149] (.f 2 [144] (.f 8 [150] (.f 3 [145] (.f 9 [151] (.f 4 [146] (.f 10 [152] (.f 5 [147] (.f 11 [153] (.f 12 [148, 154] (.f 13 [155] (.f 14 [7, 156] (.f 16 [0, 156] (.f 21 [0, 156] (.f 15 [156, 157] (.f 17 [156, 159] (.f 22 [156, 164] (.f 18 [156, 160] (.f 23 [156, 165] (.f 19 [156, 161] (.f 24 [156, 166] (.f 20 [156, 162] (.f 25 [156, 167] (.w 26 [156, 158, 163, 168] (.f 27 [156, 169] (.f 28 [156, 170] (.w 29 [171] .fin))))))))))))))))))))))))))))))) (.s .o .o))))))) (.s .o .o))))))))) h (by kernel_rfl)
def W_winmax_Max_all (m : Option Pt) (from' : Int) (s : Int × Int) (R : Rs.T [] → WP) : WP :=
 new (Ks.mk cr s) fun n1 =>
 deref m fun q2 =>
 slc ⟨some ⟨q2.b, q2.o + 1⟩, 3, 3⟩ (some from') none none 2 fun s3 =>
 loop ci (0:Int) fun J4 (y5 : Int) =>
 ite' (decide (y5 < ((s3.len : Nat) : Int))) (
 drw <|
 ld cr ⟨n1, 0⟩ fun (x6 : Int × Int) =>
 deref m fun q7 =>
 req (0 ≤ (IntKind.i64.wrap (from' + y5)) ∧ (IntKind.i64.wrap (from' + y5)) < 3) <|
 st ⟨q7.b, q7.o + 1 + (IntKind.i64.wrap (from' + y5)).toNat * 2⟩ (Ks.mk cr x6) <|
 J4 (IntKind.i64.wrap (y5 + (1:Int)))) <|
 R ()
theorem call_winmax_Max_all (m : Option Pt) (from' : Int) (s : Int × Int) (R : Rs.T [] → WP) (w : World) (h : W_winmax_Max_all m from' s R w) : CW Tryz.prog N_winmax_Max_all [vp m, .lf (.int .i64 from'), .agg (Ks.mk cr s)] [] R w := cs Tryz.func197 (.s .o (.s .o (.b (.l [(13, qi)] (.s .o (.s (.s .o .o) (.s (.b (.s .o (.d (.f 0 [0] (.f 1 [1] (.f 2 [6] (.f 4 [5] (.f 3 [17, 18] (.f 5 [16] (.f 6 [21] (.f 7 [19, 22] (.w 8 [20, 23] .fin)))))))))))) .o))))))) h (by kernel_rfl)
def W_winmax_Max_push (m : Option Pt) (s : Int × Int) (R : Rs.T [] → WP) : WP :=
 new (Ks.mk cr s) fun n1 =>
 drw <|
 ld cr ⟨n1, 0⟩ fun (x2 : Int × Int) =>
 deref m fun q3 =>
 deref m fun q4 =>
 deref m fun q5 =>
 deref m fun q6 =>
 deref m fun q7 =>
 req (0 ≤ (1:Int) ∧ (1:Int) < 3) <|
 req (0 ≤ (2:Int) ∧ (2:Int) < 3) <|
 ld cr ⟨q3.b, q3.o + 1 + (1:Int).toNat * 2⟩ fun (x8 : Int × Int) =>
 ld cr ⟨q4.b, q4.o + 1 + (2:Int).toNat * 2⟩ fun (x9 : Int × Int) =>
 req (0 ≤ (0:Int) ∧ (0:Int) < 3) <|
 st ⟨q5.b, q5.o + 1 + (0:Int).toNat * 2⟩ (Ks.mk cr x8) <|
 chk ⟨n1, 0⟩ (Ks.mk cr x2) <|
 req (0 ≤ (1:Int) ∧ (1:Int) < 3) <|
 st ⟨q6.b, q6.o + 1 + (1:Int).toNat * 2⟩ (Ks.mk cr x9) <|
 chk ⟨n1, 0⟩ (Ks.mk cr x2) <|
 req (0 ≤ (2:Int) ∧ (2:Int) < 3) <|
 st ⟨q7.b, q7.o + 1 + (2:Int).toNat * 2⟩ (Ks.mk cr x2) <|
 R ()
theorem call_winmax_Max_push (m : Option Pt) (s : Int × Int) (R : Rs.T [] → WP) (w : World) (h : W_winmax_Max_push m s R w) : CW Tryz.prog N_winmax_Max_push [vp m, .agg (Ks.mk cr s)] [] R w := cs Tryz.func198 (.s .o (.d (.f 0 [0] (.f 1 [0] (.f 2 [0] (.f 3 [0] (.f 8 [0] (.f 13 [3] (.f 4 [7] (.f 9 [12] (.f 14 [4] (.f 18 [5] (.f 22 [6] (.f 5 [8] (.f 10 [13] (.f 15 [18] (.f 19 [21] (.f 23 [24] (.f 6 [9] (.f 11 [14] (.f 7 [10] (.f 12 [15] (.f 16 [19] (.w 17 [11, 20] (.f 20 [22] (.w 21 [16, 23] (.f 24 [25] (.w 25 [17, 26] .fin)))))))))))))))))))))))))))) h (by kernel_rfl)
def W_winmax_New (window : Int) (R : Rs.T [qp] → WP) : WP :=
 new [.int .u64 window, zu, zu, zu, zu, zu, zu, zu] fun n1 =>
 R (some ⟨n1, 0⟩)
theorem call_winmax_New (window : Int) (R : Rs.T [qp] → WP) (w : World) (h : W_winmax_New window R w) : CW Tryz.prog N_winmax_New [vu window] [qp] R w := cs Tryz.func80 (.s .o (.s .o (.s .o .o))) h (by kernel_rfl)
def W_winmax_near (t : Int) (s : Int × Int) (window : Int) (R : Rs.T [qb] → WP) : WP :=
 new (Ks.mk cr s) fun n1 =>
 ld cu ⟨n1, 0⟩ fun (x2 : Int) =>
 R (decide ((IntKind.u64.wrap (t - (if x2 < t then x2 else t))) ≤ window))
theorem call_winmax_near (t : Int) (s : Int × Int) (window : Int) (R : Rs.T [qb] → WP) (w : World) (h : W_winmax_near t s window R w) : CW Tryz.prog N_winmax_near [vu t, .agg (Ks.mk cr s), vu window] [qb] R w := cs Tryz.func195 (.s .o (.s .o .o)) h (by kernel_rfl)
end Go.X
