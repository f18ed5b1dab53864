/- What each function of the program computes, as a weakest precondition, printed by program; the kernel sees that the code says so. -/
import Derived.Test.YtniflenfpbbikaaDoorK
import Derived.Test.YtniflenfpbbikaaDoorProg
set_option linter.unusedVariables false
set_option linter.unusedSimpArgs false
set_option linter.unusedSectionVars false
namespace Go.X
open Go.Proofs
def W_canterhelp_Digits (v : Int) (R : Rs.T [.lf .str] → WP) : WP :=
 ite' (decide (v < (10:Int))) (
 new [.int .u8 (IntKind.u8.wrap (IntKind.u64.wrap ((48:Int) + v)))] fun n1 =>
 bstr ⟨some ⟨n1, 0⟩, 1, 1⟩ fun t2 =>
 R t2) <|
 drw <|
 both (
 call Tryd.prog N_canterhelp_Digits [.lf (.int .u64 (IntKind.u64.wrap (v.tdiv (10:Int))))] [.lf .str] fun (r3 : ByteArray) =>
 new [.int .u8 (IntKind.u8.wrap (IntKind.u64.wrap ((48:Int) + (v.tmod (10:Int)))))] fun n4 =>
 bstr ⟨some ⟨n4, 0⟩, 1, 1⟩ fun t5 =>
 req (((r3.size + t5.size : Nat) : Int) ≤ IntKind.i64.max) <|
 R (r3 ++ t5)) <|
 new [.int .u8 (IntKind.u8.wrap (IntKind.u64.wrap ((48:Int) + (v.tmod (10:Int)))))] fun n6 =>
 both (
 call Tryd.prog N_canterhelp_Digits [.lf (.int .u64 (IntKind.u64.wrap (v.tdiv (10:Int))))] [.lf .str] fun (r7 : ByteArray) =>
 bstr ⟨some ⟨n6, 0⟩, 1, 1⟩ fun t8 =>
 req (((r7.size + t8.size : Nat) : Int) ≤ IntKind.i64.max) <|
 R (r7 ++ t8)) <|
 bstr ⟨some ⟨n6, 0⟩, 1, 1⟩ fun t9 =>
 call Tryd.prog N_canterhelp_Digits [.lf (.int .u64 (IntKind.u64.wrap (v.tdiv (10:Int))))] [.lf .str] fun (r10 : ByteArray) =>
 req (((r10.size + t9.size : Nat) : Int) ≤ IntKind.i64.max) <|
 R (r10 ++ t9)
theorem call_canterhelp_Digits (v : Int) (R : Rs.T [.lf .str] → WP) (w : World) (h : W_canterhelp_Digits v R w) : CW Tryd.prog N_canterhelp_Digits [vu v] [.lf .str] R w := cs Tryd.func16 (.s .o (.s (.s .o (.s (.s .o .o) .o)) (.s (.d (.f 0 [0] (.f 3 [0] (.f 1 [10] (.f 4 [13] (.f 5 [14] (.f 6 [15] (.wa 2 [11] (.w 7 [16] (.w 8 [17] (.f 9 [12, 18] (.w 10 [19] .fin)))) (.w 7 [16] (.wa 2 [11] (.w 8 [17] (.f 9 [12, 18] (.w 10 [19] .fin))) (.w 8 [17] (.w 2 [11] (.f 9 [12, 18] (.w 10 [19] .fin)))))))))))))) .o))) h (by kernel_rfl)
def W_canterlaw28_ScriptTexts (outs : Sl) (errs : Sl) (R : Rs.T [qb] → WP) : WP :=
 loop [.int .i64, .int .i64] ((0:Int), (0:Int)) fun J1 (y2 : Int × Int) =>
 ite' (decide (y2.2 < ((outs.len : Nat) : Int))) (
 drw <|
 idx outs y2.2 4 fun q3 =>
 idx outs y2.2 4 fun q4 =>
 ld cl q3 fun (x5 : Sl) =>
 lo cl q4 1 fun (x6 : Sl) =>
 J1 ((IntKind.i64.wrap ((IntKind.i64.wrap (y2.1 + ((x5.len : Nat) : Int))) + ((x6.len : Nat) : Int))), (IntKind.i64.wrap (y2.2 + (1:Int))))) <|
 ite' (((decide (((outs.len : Nat) : Int) > (60:Int))) || (decide (((errs.len : Nat) : Int) > (60:Int)))) || (decide (y2.1 > (200:Int)))) (
 call Tryd.prog N_canterlaw28_awake [] [qb] fun (r7 : Bool) =>
 R r7) <|
 call Tryd.prog N_canterlaw28_awake [] [qb] fun (r8 : Bool) =>
 ite' r8 (
 call Tryd.prog N_script_Text [.lf (.sl outs), .lf (.sl errs)] [.lf .str] fun (r9 : ByteArray) =>
 call Tryd.prog N_canterref20_Text [.lf (.sl outs), .lf (.sl errs)] [.lf .str] fun (r10 : ByteArray) =>
 R (r9.toList == r10.toList)) <|
 R false
theorem call_canterlaw28_ScriptTexts (outs : Sl) (errs : Sl) (R : Rs.T [qb] → WP) (w : World) (h : W_canterlaw28_ScriptTexts outs errs R w) : CW Tryd.prog N_canterlaw28_ScriptTexts [.lf (.sl outs), .lf (.sl errs)] [qb] R w := cs Tryd.func4 (.s .o (.s .o (.s (.s .o (.b (.l [(5, qi), (6, qi)] (.s (.s .o (.s .o .o)) (.s (.b (.d (.f 0 [5] (.f 1 [0] (.f 2 [6] (.f 8 [0] (.f 9 [6] (.f 3 [14, 15] (.f 10 [21, 22] (.f 4 [16] (.f 11 [23] (.f 5 [17] (.f 12 [24] (.f 6 [18] (.f 13 [25] (.f 7 [13, 19] (.f 14 [20, 26] (.w 15 [27] .fin)))))))))))))))))) .o))))) (.s (.s .o (.s (.s .o .o) .o)) (.s .o .o))))) h (by kernel_rfl)
def W_canterlaw28_awake  (R : Rs.T [qb] → WP) : WP :=
 new [.int .u8 (1:Int), .int .u8 (2:Int)] fun n1 =>
 call Tryd.prog N_script_Decode [.lf (.sl ⟨some ⟨n1, 0⟩, 2, 2⟩)] [qs] fun (r2 : Sl) =>
 ite' (((r2.len : Nat) : Int) == (1:Int)) (
 idx r2 (0:Int) 15 fun q3 =>
 ld ci q3 fun (x4 : Int) =>
 ite' (x4 == (1:Int)) (
 idx r2 (0:Int) 15 fun q5 =>
 lo ci q5 1 fun (x6 : Int) =>
 ite' (x6 == (2:Int)) (
 new [.int .i64 (5:Int)] fun n7 =>
 call Tryd.prog N_script_Text [.lf (.sl ⟨none, 0, 0⟩), .lf (.sl ⟨some ⟨n7, 0⟩, 1, 1⟩)] [.lf .str] fun (r8 : ByteArray) =>
 ite' (r8.toList == (⟨#[53, 10]⟩ : ByteArray).toList) (
 call Tryd.prog N_script_Plain [] [.agg K_i4u2bi2] fun (r9 : T_i4u2bi2) =>
 call Tryd.prog N_canterref20_Plain [] [.agg K_i4u2bi2] fun (r10 : T_i4u2bi2) =>
 R ((r9.1 == r10.1) && ((r9.2.1 == r10.2.1) && ((r9.2.2.1 == r10.2.2.1) && ((r9.2.2.2.1 == r10.2.2.2.1) && ((r9.2.2.2.2.1 == r10.2.2.2.2.1) && ((r9.2.2.2.2.2.1 == r10.2.2.2.2.2.1) && ((r9.2.2.2.2.2.2.1 == r10.2.2.2.2.2.2.1) && ((r9.2.2.2.2.2.2.2.1 == r10.2.2.2.2.2.2.2.1) && (r9.2.2.2.2.2.2.2.2 == r10.2.2.2.2.2.2.2.2)))))))))) <|
 R false) <|
 R false) <|
 R false) <|
 R false
theorem call_canterlaw28_awake  (R : Rs.T [qb] → WP) (w : World) (h : W_canterlaw28_awake  R w) : CW Tryd.prog N_canterlaw28_awake [] [qb] R w := cs Tryd.func7 (.s .o (.s .o (.s .o .o))) h (by kernel_rfl)
def W_canterref20_Plain  (R : Rs.T [.agg K_i4u2bi2] → WP) : WP :=
 new [zi, zi, zi, zi, zu, zu, .bool false, zi, zi] fun n1 =>
 st ⟨n1, 0⟩ [.int .i64 (3000:Int), .int .i64 (15000:Int), .int .i64 (100:Int), .int .i64 (50:Int), .int .u64 (10000000000:Int), zu, .bool false, .int .i64 (100000:Int), .int .i64 (1000:Int)] <|
 ld K_i4u2bi2 ⟨n1, 0⟩ fun (x2 : T_i4u2bi2) =>
 R x2
theorem call_canterref20_Plain  (R : Rs.T [.agg K_i4u2bi2] → WP) (w : World) (h : W_canterref20_Plain  R w) : CW Tryd.prog N_canterref20_Plain [] [.agg K_i4u2bi2] R w := cs Tryd.func18 (.s .o (.s .o .o)) h (by kernel_rfl)
def W_canterref20_Text (outs : Sl) (errs : Sl) (R : Rs.T [.lf .str] → WP) : WP :=
 loop [.str, .int .i64] ((⟨#[]⟩ : ByteArray), (0:Int)) fun J1 (y2 : ByteArray × Int) =>
 ite' (decide (y2.2 < ((errs.len : Nat) : Int))) (
 idx errs y2.2 1 fun q3 =>
 ld ci q3 fun (x4 : Int) =>
 call Tryd.prog N_canterhelp_Digits [.lf (.int .u64 (IntKind.u64.wrap (if x4 > (0:Int) then x4 else (0:Int))))] [.lf .str] fun (r5 : ByteArray) =>
 req (((y2.1.size + r5.size : Nat) : Int) ≤ IntKind.i64.max) <|
 ite' (decide (y2.2 < ((outs.len : Nat) : Int))) (
 drw <|
 idx outs y2.2 4 fun q6 =>
 idx outs y2.2 4 fun q7 =>
 ld cl q6 fun (x8 : Sl) =>
 lo cl q7 1 fun (x9 : Sl) =>
 call Tryd.prog N_canterref20_segs [.lf (.str (⟨#[32, 43]⟩ : ByteArray)), .lf (.sl x8)] [.lf .str] fun (r10 : ByteArray) =>
 ck q7 1 cl x9 <|
 req ((((y2.1 ++ r5).size + r10.size : Nat) : Int) ≤ IntKind.i64.max) <|
 call Tryd.prog N_canterref20_segs [.lf (.str (⟨#[32, 45]⟩ : ByteArray)), .lf (.sl x9)] [.lf .str] fun (r11 : ByteArray) =>
 req (((((y2.1 ++ r5) ++ r10).size + r11.size : Nat) : Int) ≤ IntKind.i64.max) <|
 idx outs y2.2 4 fun q12 =>
 lo cu q12 3 fun (x13 : Int) =>
 ite' (x13 != (0:Int)) (
 req ((((((y2.1 ++ r5) ++ r10) ++ r11).size + (⟨#[32, 64]⟩ : ByteArray).size : Nat) : Int) ≤ IntKind.i64.max) <|
 idx outs y2.2 4 fun q14 =>
 lo cu q14 3 fun (x15 : Int) =>
 call Tryd.prog N_canterhelp_Digits [vu x15] [.lf .str] fun (r16 : ByteArray) =>
 req (((((((y2.1 ++ r5) ++ r10) ++ r11) ++ (⟨#[32, 64]⟩ : ByteArray)).size + r16.size : Nat) : Int) ≤ IntKind.i64.max) <|
 req ((((((((y2.1 ++ r5) ++ r10) ++ r11) ++ (⟨#[32, 64]⟩ : ByteArray)) ++ r16).size + (⟨#[10]⟩ : ByteArray).size : Nat) : Int) ≤ IntKind.i64.max) <|
 J1 (((((((y2.1 ++ r5) ++ r10) ++ r11) ++ (⟨#[32, 64]⟩ : ByteArray)) ++ r16) ++ (⟨#[10]⟩ : ByteArray)), (IntKind.i64.wrap (y2.2 + (1:Int))))) <|
 req ((((((y2.1 ++ r5) ++ r10) ++ r11).size + (⟨#[10]⟩ : ByteArray).size : Nat) : Int) ≤ IntKind.i64.max) <|
 J1 (((((y2.1 ++ r5) ++ r10) ++ r11) ++ (⟨#[10]⟩ : ByteArray)), (IntKind.i64.wrap (y2.2 + (1:Int))))) <|
 req ((((y2.1 ++ r5).size + (⟨#[10]⟩ : ByteArray).size : Nat) : Int) ≤ IntKind.i64.max) <|
 J1 (((y2.1 ++ r5) ++ (⟨#[10]⟩ : ByteArray)), (IntKind.i64.wrap (y2.2 + (1:Int))))) <|
 R y2.1
theorem call_canterref20_Text (outs : Sl) (errs : Sl) (R : Rs.T [.lf .str] → WP) (w : World) (h : W_canterref20_Text outs errs R w) : CW Tryd.prog N_canterref20_Text [.lf (.sl outs), .lf (.sl errs)] [.lf .str] R w := cs Tryd.func15 (.s .o (.s .o (.s (.s .o (.b (.l [(5, .lf .str), (6, qi)] (.s (.s .o (.s .o .o)) (.s (.b (.s .o (.s (.s .o (.s (.s (.d (.f 0 [5] (.f 1 [0] (.f 2 [6] (.f 8 [0] (.f 9 [6] (.f 3 [27, 28] (.f 10 [34, 35] (.f 4 [29] (.f 11 [36] (.f 5 [30] (.f 12 [37] (.w 6 [31] (.f 7 [26, 32] (.w 13 [38] (.f 14 [33, 39] (.w 15 [40] .fin))))))))))))))))) (.s .o (.s .o .o))) .o)) .o))) .o))))) (.s .o .o)))) h (by kernel_rfl)
def W_canterref20_segs (sign : ByteArray) (l : Sl) (R : Rs.T [.lf .str] → WP) : WP :=
 loop [.str, .int .i64] ((⟨#[]⟩ : ByteArray), (0:Int)) fun J1 (y2 : ByteArray × Int) =>
 ite' (decide (y2.2 < ((l.len : Nat) : Int))) (
 drw <|
 req (((y2.1.size + sign.size : Nat) : Int) ≤ IntKind.i64.max) <|
 idx l y2.2 5 fun q3 =>
 idx l y2.2 5 fun q4 =>
 idx l y2.2 5 fun q5 =>
 ld ci q3 fun (x6 : Int) =>
 lo cu q4 1 fun (x7 : Int) =>
 lo ci q5 2 fun (x8 : Int) =>
 call Tryd.prog N_canterhelp_Digits [.lf (.int .u64 (IntKind.u64.wrap (if x6 > (0:Int) then x6 else (0:Int))))] [.lf .str] fun (r9 : ByteArray) =>
 ck q5 2 ci x8 <|
 ck q4 1 cu x7 <|
 req ((((y2.1 ++ sign).size + r9.size : Nat) : Int) ≤ IntKind.i64.max) <|
 req (((((y2.1 ++ sign) ++ r9).size + (⟨#[58]⟩ : ByteArray).size : Nat) : Int) ≤ IntKind.i64.max) <|
 call Tryd.prog N_canterhelp_Digits [vu x7] [.lf .str] fun (r10 : ByteArray) =>
 ck q5 2 ci x8 <|
 req ((((((y2.1 ++ sign) ++ r9) ++ (⟨#[58]⟩ : ByteArray)).size + r10.size : Nat) : Int) ≤ IntKind.i64.max) <|
 req (((((((y2.1 ++ sign) ++ r9) ++ (⟨#[58]⟩ : ByteArray)) ++ r10).size + (⟨#[58]⟩ : ByteArray).size : Nat) : Int) ≤ IntKind.i64.max) <|
 call Tryd.prog N_canterhelp_Digits [.lf (.int .u64 (IntKind.u64.wrap (if x8 > (0:Int) then x8 else (0:Int))))] [.lf .str] fun (r11 : ByteArray) =>
 req ((((((((y2.1 ++ sign) ++ r9) ++ (⟨#[58]⟩ : ByteArray)) ++ r10) ++ (⟨#[58]⟩ : ByteArray)).size + r11.size : Nat) : Int) ≤ IntKind.i64.max) <|
 J1 (((((((y2.1 ++ sign) ++ r9) ++ (⟨#[58]⟩ : ByteArray)) ++ r10) ++ (⟨#[58]⟩ : ByteArray)) ++ r11), (IntKind.i64.wrap (y2.2 + (1:Int))))) <|
 R y2.1
theorem call_canterref20_segs (sign : ByteArray) (l : Sl) (R : Rs.T [.lf .str] → WP) (w : World) (h : W_canterref20_segs sign l R w) : CW Tryd.prog N_canterref20_segs [.lf (.str sign), .lf (.sl l)] [.lf .str] R w := cs Tryd.func28 (.s .o (.s .o (.s (.s .o (.b (.l [(5, .lf .str), (6, qi)] (.s (.s .o (.s .o .o)) (.s (.b (.d (.f 0 [5] (.f 1 [0] (.f 3 [1] (.f 4 [6] (.f 13 [1] (.f 14 [6] (.f 21 [1] (.f 22 [6] (.f 2 [13, 14] (.f 5 [16, 17] (.f 15 [26, 27] (.f 23 [34, 35] (.f 6 [18] (.f 16 [28] (.f 24 [36] (.f 7 [19] (.f 17 [29] (.f 25 [37] (.f 8 [20] (.f 26 [38] (.f 9 [21] (.f 27 [39] (.w 10 [22] (.f 11 [15, 23] (.f 12 [24] (.w 18 [30] (.f 19 [25, 31] (.f 20 [32] (.w 28 [40] (.f 29 [33, 41] (.w 30 [42] .fin))))))))))))))))))))))))))))))))) .o))))) (.s .o .o)))) h (by kernel_rfl)
def W_script_Decode (b : Sl) (R : Rs.T [qs] → WP) : WP :=
 loop [.sl, .sl] (b, ⟨none, 0, 0⟩) fun J1 (y2 : Sl × Sl) =>
 ite' (decide (((y2.1.len : Nat) : Int) > (0:Int))) (
 ite' (((y2.2.len : Nat) : Int) == (300:Int)) (
 R y2.2) <|
 new [zi, zi, zi, zi, zi, zi] fun n3 =>
 slc y2.1 none (some (if (6:Int) < ((y2.1.len : Nat) : Int) then (6:Int) else ((y2.1.len : Nat) : Int))) none 1 fun s4 =>
 loop ci (0:Int) fun J5 (y6 : Int) =>
 ite' (decide (y6 < ((s4.len : Nat) : Int))) (
 idx s4 y6 1 fun q7 =>
 ld [.int .u8] q7 fun (x8 : Int) =>
 req (0 ≤ y6 ∧ y6 < 6) <|
 st ⟨n3, 0 + y6.toNat * 1⟩ [.int .i64 (IntKind.i64.wrap x8)] <|
 J5 (IntKind.i64.wrap (y6 + (1:Int)))) <|
 slc y2.1 (some (if (6:Int) < ((y2.1.len : Nat) : Int) then (6:Int) else ((y2.1.len : Nat) : Int))) none none 1 fun s9 =>
 ld K_i6 ⟨n3, 0⟩ fun (x10 : T_i6) =>
 call Tryd.prog N_script_deed [.agg (Ks.mk K_i6 x10)] [.agg K_i3u2si4u2bi2] fun (r11 : T_i3u2si4u2bi2) =>
 new [.int .i64 r11.1, .int .i64 r11.2.1, .int .i64 r11.2.2.1, .int .u64 r11.2.2.2.1, .int .u64 r11.2.2.2.2.1, .sl r11.2.2.2.2.2.1, .int .i64 r11.2.2.2.2.2.2.1, .int .i64 r11.2.2.2.2.2.2.2.1, .int .i64 r11.2.2.2.2.2.2.2.2.1, .int .i64 r11.2.2.2.2.2.2.2.2.2.1, .int .u64 r11.2.2.2.2.2.2.2.2.2.2.1, .int .u64 r11.2.2.2.2.2.2.2.2.2.2.2.1, .bool r11.2.2.2.2.2.2.2.2.2.2.2.2.1, .int .i64 r11.2.2.2.2.2.2.2.2.2.2.2.2.2.1, .int .i64 r11.2.2.2.2.2.2.2.2.2.2.2.2.2.2] fun n12 =>
 app 15 y2.2 ⟨some ⟨n12, 0⟩, 1, 1⟩ fun s13 =>
 J1 (s9, s13)) <|
 R y2.2
theorem call_script_Decode (b : Sl) (R : Rs.T [qs] → WP) (w : World) (h : W_script_Decode b R w) : CW Tryd.prog N_script_Decode [.lf (.sl b)] [qs] R w := cs Tryd.func10 (.s .o (.s .o (.s .o (.s (.b (.l [(0, qs), (3, qs)] (.s (.s .o (.s .o .o)) (.b (.s (.s .o (.s .o .o)) (.s .o (.s .o (.s (.s .o (.b (.l [(21, qi)] (.s .o (.s (.s .o .o) (.s (.b (.s .o .o)) .o)))))) (.s .o .o))))))))) (.s .o .o))))) h (by kernel_rfl)
def W_script_Plain  (R : Rs.T [.agg K_i4u2bi2] → WP) : WP :=
 new [zi, zi, zi, zi, zu, zu, .bool false, zi, zi] fun n1 =>
 st ⟨n1, 0⟩ [.int .i64 (3000:Int), .int .i64 (15000:Int), .int .i64 (100:Int), .int .i64 (50:Int), .int .u64 (10000000000:Int), zu, .bool false, .int .i64 (100000:Int), .int .i64 (1000:Int)] <|
 ld K_i4u2bi2 ⟨n1, 0⟩ fun (x2 : T_i4u2bi2) =>
 R x2
theorem call_script_Plain  (R : Rs.T [.agg K_i4u2bi2] → WP) (w : World) (h : W_script_Plain  R w) : CW Tryd.prog N_script_Plain [] [.agg K_i4u2bi2] R w := cs Tryd.func17 (.s .o (.s .o .o)) h (by kernel_rfl)
def W_script_Text (outs : Sl) (errs : Sl) (R : Rs.T [.lf .str] → WP) : WP :=
 newT 61 [.ptr none, .sl ⟨none, 0, 0⟩] fun n1 =>
 loop ci (0:Int) fun J2 (y3 : Int) =>
 ite' (decide (y3 < ((errs.len : Nat) : Int))) (
 idx errs y3 1 fun q4 =>
 ld ci q4 fun (x5 : Int) =>
 call Tryd.prog N_script_digits [vi x5] [.lf .str] fun (r6 : ByteArray) =>
 call Tryd.prog N_strings_Builder_WriteString [.lf (.ptr (some ⟨n1, 0⟩)), .lf (.str r6)] [qi, .lf .ifc] fun (r7 : Int × Unit) =>
 join [] (fun J8 =>
 ite' (decide (y3 < ((outs.len : Nat) : Int))) (
 idx outs y3 4 fun q10 =>
 ld K_s3u q10 fun (x11 : T_s3u) =>
 new [.sl ⟨none, 0, 0⟩, .sl ⟨none, 0, 0⟩, .sl ⟨none, 0, 0⟩, zu] fun n12 =>
 st ⟨n12, 0⟩ (Ks.mk K_s3u x11) <|
 drw <|
 ld cl ⟨n12, 0⟩ fun (x13 : Sl) =>
 ld cl ⟨n12, 1⟩ fun (x14 : Sl) =>
 call Tryd.prog N_script_segs [.lf (.str (⟨#[43]⟩ : ByteArray)), .lf (.sl x13)] [.lf .str] fun (r15 : ByteArray) =>
 chk ⟨n12, 1⟩ (Ks.mk cl x14) <|
 call Tryd.prog N_script_segs [.lf (.str (⟨#[45]⟩ : ByteArray)), .lf (.sl x14)] [.lf .str] fun (r16 : ByteArray) =>
 req (((r15.size + r16.size : Nat) : Int) ≤ IntKind.i64.max) <|
 call Tryd.prog N_strings_Builder_WriteString [.lf (.ptr (some ⟨n1, 0⟩)), .lf (.str (r15 ++ r16))] [qi, .lf .ifc] fun (r17 : Int × Unit) =>
 ld cu ⟨n12, 3⟩ fun (x18 : Int) =>
 ite' (x18 != (0:Int)) (
 ld cu ⟨n12, 3⟩ fun (x19 : Int) =>
 call Tryd.prog N_strconv_FormatUint [vu x19, .lf (.int .i64 (10:Int))] [.lf .str] fun (r20 : ByteArray) =>
 req ((((⟨#[32, 64]⟩ : ByteArray).size + r20.size : Nat) : Int) ≤ IntKind.i64.max) <|
 call Tryd.prog N_strings_Builder_WriteString [.lf (.ptr (some ⟨n1, 0⟩)), .lf (.str ((⟨#[32, 64]⟩ : ByteArray) ++ r20))] [qi, .lf .ifc] fun (r21 : Int × Unit) =>
 J8 ()) <|
 J8 ()) <|
 J8 ()) fun (y9 : Unit) =>
 call Tryd.prog N_strings_Builder_WriteString [.lf (.ptr (some ⟨n1, 0⟩)), .lf (.str (⟨#[10]⟩ : ByteArray))] [qi, .lf .ifc] fun (r22 : Int × Unit) =>
 J2 (IntKind.i64.wrap (y3 + (1:Int)))) <|
 call Tryd.prog N_strings_Builder_String [.lf (.ptr (some ⟨n1, 0⟩))] [.lf .str] fun (r23 : ByteArray) =>
 R r23
theorem call_script_Text (outs : Sl) (errs : Sl) (R : Rs.T [.lf .str] → WP) (w : World) (h : W_script_Text outs errs R w) : CW Tryd.prog N_script_Text [.lf (.sl outs), .lf (.sl errs)] [.lf .str] R w := cs Tryd.func14 (.s .o (.s .o (.s (.s .o (.b (.l [(11, qi)] (.s .o (.s (.s .o .o) (.s (.b (.s .o (.s .o (.j [] (.s .o (.s (.s .o (.s (.d (.f 0 [8] (.f 3 [8] (.f 1 [27] (.f 4 [30] (.w 2 [28] (.w 5 [31] (.f 6 [29, 32] (.w 7 [5, 33] .fin))))))))) (.s .o (.s .o .o)))) .o)) .o)))) .o)))))) (.s .o .o)))) h (by kernel_rfl)
def W_script_deed (d : T_i6) (R : Rs.T [.agg K_i3u2si4u2bi2] → WP) : WP :=
 new (Ks.mk K_i6 d) fun n1 =>
 new [zi, zi, zi, zu, zu, .sl ⟨none, 0, 0⟩, zi, zi, zi, zi, zu, zu, .bool false, zi, zi] fun n2 =>
 drw <|
 req (0 ≤ (0:Int) ∧ (0:Int) < 6) <|
 req (0 ≤ (1:Int) ∧ (1:Int) < 6) <|
 req (0 ≤ (2:Int) ∧ (2:Int) < 6) <|
 req (0 ≤ (3:Int) ∧ (3:Int) < 6) <|
 req (0 ≤ (4:Int) ∧ (4:Int) < 6) <|
 req (0 ≤ (5:Int) ∧ (5:Int) < 6) <|
 ld ci ⟨n1, 0 + (0:Int).toNat * 1⟩ fun (x3 : Int) =>
 ld ci ⟨n1, 0 + (1:Int).toNat * 1⟩ fun (x4 : Int) =>
 ld ci ⟨n1, 0 + (2:Int).toNat * 1⟩ fun (x5 : Int) =>
 ld ci ⟨n1, 0 + (3:Int).toNat * 1⟩ fun (x6 : Int) =>
 ld ci ⟨n1, 0 + (4:Int).toNat * 1⟩ fun (x7 : Int) =>
 ld ci ⟨n1, 0 + (5:Int).toNat * 1⟩ fun (x8 : Int) =>
 chk ⟨n1, 0 + (5:Int).toNat * 1⟩ (Ks.mk ci x8) <|
 chk ⟨n1, 0 + (4:Int).toNat * 1⟩ (Ks.mk ci x7) <|
 chk ⟨n1, 0 + (3:Int).toNat * 1⟩ (Ks.mk ci x6) <|
 chk ⟨n1, 0 + (2:Int).toNat * 1⟩ (Ks.mk ci x5) <|
 chk ⟨n1, 0 + (1:Int).toNat * 1⟩ (Ks.mk ci x4) <|
 chk ⟨n1, 0 + (5:Int).toNat * 1⟩ (Ks.mk ci x8) <|
 chk ⟨n1, 0 + (4:Int).toNat * 1⟩ (Ks.mk ci x7) <|
 chk ⟨n1, 0 + (3:Int).toNat * 1⟩ (Ks.mk ci x6) <|
 chk ⟨n1, 0 + (2:Int).toNat * 1⟩ (Ks.mk ci x5) <|
 chk ⟨n1, 0 + (5:Int).toNat * 1⟩ (Ks.mk ci x8) <|
 chk ⟨n1, 0 + (4:Int).toNat * 1⟩ (Ks.mk ci x7) <|
 chk ⟨n1, 0 + (3:Int).toNat * 1⟩ (Ks.mk ci x6) <|
 chk ⟨n1, 0 + (5:Int).toNat * 1⟩ (Ks.mk ci x8) <|
 chk ⟨n1, 0 + (4:Int).toNat * 1⟩ (Ks.mk ci x7) <|
 chk ⟨n1, 0 + (5:Int).toNat * 1⟩ (Ks.mk ci x8) <|
 call Tryd.prog N_script_Plain [] [.agg K_i4u2bi2] fun (r9 : T_i4u2bi2) =>
 new [zi, zi, zi, zu, zu, .sl ⟨none, 0, 0⟩, zi, zi, zi, zi, zu, zu, .bool false, zi, zi] fun n10 =>
 st ⟨n10, 0⟩ [.int .i64 (x3.tmod (10:Int)), .int .i64 (x4.tmod (9:Int)), .int .i64 (IntKind.i64.wrap (x5 * (100:Int))), .int .u64 (IntKind.u64.wrap (IntKind.i64.wrap ((IntKind.i64.wrap (x6 * (1000:Int))) + x7))), .int .u64 (IntKind.u64.wrap (IntKind.i64.wrap ((IntKind.i64.wrap (x6 * (100000000:Int))) + (IntKind.i64.wrap (x7 * (1000000:Int)))))), .sl ⟨none, 0, 0⟩, .int .i64 r9.1, .int .i64 r9.2.1, .int .i64 r9.2.2.1, .int .i64 r9.2.2.2.1, .int .u64 r9.2.2.2.2.1, .int .u64 r9.2.2.2.2.2.1, .bool r9.2.2.2.2.2.2.1, .int .i64 r9.2.2.2.2.2.2.2.1, .int .i64 r9.2.2.2.2.2.2.2.2] <|
 join [] (fun J11 =>
 ite' ((x8.tmod (2:Int)) == (1:Int)) (
 new [.int .u64 (IntKind.u64.wrap (IntKind.i64.wrap (x7 * (100:Int)))), .int .u64 (IntKind.u64.wrap (IntKind.i64.wrap ((IntKind.i64.wrap (x7 * (100:Int))) + (IntKind.i64.wrap (x8 * (100:Int))))))] fun n13 =>
 st ⟨n10, 5⟩ [.sl ⟨some ⟨n13, 0⟩, 1, 1⟩] <|
 J11 ()) <|
 J11 ()) fun (y12 : Unit) =>
 st ⟨n10, 6⟩ [.int .i64 (IntKind.i64.wrap (x5 * (100:Int)))] <|
 st ⟨n10, 11⟩ [.int .u64 (IntKind.u64.wrap (IntKind.i64.wrap (x6 * (10000:Int))))] <|
 st ⟨n10, 8⟩ [.int .i64 x7] <|
 st ⟨n10, 12⟩ [.bool ((x8.tmod (2:Int)) == (1:Int))] <|
 ld K_i3u2si4u2bi2 ⟨n10, 0⟩ fun (x14 : T_i3u2si4u2bi2) =>
 st ⟨n2, 0⟩ (Ks.mk K_i3u2si4u2bi2 x14) <|
 ld K_i3u2si4u2bi2 ⟨n2, 0⟩ fun (x15 : T_i3u2si4u2bi2) =>
 R x15
theorem call_script_deed (d : T_i6) (R : Rs.T [.agg K_i3u2si4u2bi2] → WP) (w : World) (h : W_script_deed d R w) : CW Tryd.prog N_script_deed [.agg (Ks.mk K_i6 d)] [.agg K_i3u2si4u2bi2] R w := cs Tryd.func19 (.s .o (.s (.d (.f 0 [1] (.f 2 [1] (.f 4 [1] (.f 6 [1] (.f 8 [1] (.f 10 [1] (.f 1 [10] (.f 3 [12] (.f 5 [14] (.f 7 [16] (.f 9 [18] (.f 11 [20] (.w 12 [11] (.w 13 [13] (.w 14 [15] (.w 15 [17] (.w 16 [19] (.w 17 [21] .fin))))))))))))))))))) (.s .o (.j [] (.s .o (.s .o .o)) (.s .o (.s .o .o)))))) h (by kernel_rfl)
def W_script_digits (v : Int) (R : Rs.T [.lf .str] → WP) : WP :=
 call Tryd.prog N_strconv_Itoa [.lf (.int .i64 (if (0:Int) > v then (0:Int) else v))] [.lf .str] fun (r1 : ByteArray) =>
 R r1
theorem call_script_digits (v : Int) (R : Rs.T [.lf .str] → WP) (w : World) (h : W_script_digits v R w) : CW Tryd.prog N_script_digits [vi v] [.lf .str] R w := cs Tryd.func24 (.s .o (.s .o .o)) h (by kernel_rfl)
def W_script_segs (sign : ByteArray) (l : Sl) (R : Rs.T [.lf .str] → WP) : WP :=
 newT 61 [.ptr none, .sl ⟨none, 0, 0⟩] fun n1 =>
 loop ci (0:Int) fun J2 (y3 : Int) =>
 ite' (decide (y3 < ((l.len : Nat) : Int))) (
 idx l y3 5 fun q4 =>
 ld K_iuiub q4 fun (x5 : T_iuiub) =>
 new [zi, zu, zi, zu, .bool false] fun n6 =>
 st ⟨n6, 0⟩ (Ks.mk K_iuiub x5) <|
 drw <|
 req ((((⟨#[32]⟩ : ByteArray).size + sign.size : Nat) : Int) ≤ IntKind.i64.max) <|
 ld ci ⟨n6, 0⟩ fun (x7 : Int) =>
 ld cu ⟨n6, 1⟩ fun (x8 : Int) =>
 ld ci ⟨n6, 2⟩ fun (x9 : Int) =>
 call Tryd.prog N_script_digits [vi x7] [.lf .str] fun (r10 : ByteArray) =>
 chk ⟨n6, 2⟩ (Ks.mk ci x9) <|
 chk ⟨n6, 1⟩ (Ks.mk cu x8) <|
 req (((((⟨#[32]⟩ : ByteArray) ++ sign).size + r10.size : Nat) : Int) ≤ IntKind.i64.max) <|
 req ((((((⟨#[32]⟩ : ByteArray) ++ sign) ++ r10).size + (⟨#[58]⟩ : ByteArray).size : Nat) : Int) ≤ IntKind.i64.max) <|
 call Tryd.prog N_strconv_FormatUint [vu x8, .lf (.int .i64 (10:Int))] [.lf .str] fun (r11 : ByteArray) =>
 chk ⟨n6, 2⟩ (Ks.mk ci x9) <|
 req (((((((⟨#[32]⟩ : ByteArray) ++ sign) ++ r10) ++ (⟨#[58]⟩ : ByteArray)).size + r11.size : Nat) : Int) ≤ IntKind.i64.max) <|
 req ((((((((⟨#[32]⟩ : ByteArray) ++ sign) ++ r10) ++ (⟨#[58]⟩ : ByteArray)) ++ r11).size + (⟨#[58]⟩ : ByteArray).size : Nat) : Int) ≤ IntKind.i64.max) <|
 call Tryd.prog N_script_digits [vi x9] [.lf .str] fun (r12 : ByteArray) =>
 req (((((((((⟨#[32]⟩ : ByteArray) ++ sign) ++ r10) ++ (⟨#[58]⟩ : ByteArray)) ++ r11) ++ (⟨#[58]⟩ : ByteArray)).size + r12.size : Nat) : Int) ≤ IntKind.i64.max) <|
 call Tryd.prog N_strings_Builder_WriteString [.lf (.ptr (some ⟨n1, 0⟩)), .lf (.str (((((((⟨#[32]⟩ : ByteArray) ++ sign) ++ r10) ++ (⟨#[58]⟩ : ByteArray)) ++ r11) ++ (⟨#[58]⟩ : ByteArray)) ++ r12))] [qi, .lf .ifc] fun (r13 : Int × Unit) =>
 J2 (IntKind.i64.wrap (y3 + (1:Int)))) <|
 call Tryd.prog N_strings_Builder_String [.lf (.ptr (some ⟨n1, 0⟩))] [.lf .str] fun (r14 : ByteArray) =>
 R r14
theorem call_script_segs (sign : ByteArray) (l : Sl) (R : Rs.T [.lf .str] → WP) (w : World) (h : W_script_segs sign l R w) : CW Tryd.prog N_script_segs [.lf (.str sign), .lf (.sl l)] [.lf .str] R w := cs Tryd.func25 (.s .o (.s .o (.s (.s .o (.b (.l [(10, qi)] (.s .o (.s (.s .o .o) (.s (.b (.s .o (.d (.f 0 [0] (.f 2 [7] (.f 7 [7] (.f 12 [7] (.f 1 [14] (.f 3 [16] (.f 8 [21] (.f 13 [26] (.w 4 [17] (.f 5 [15, 18] (.f 6 [19] (.w 9 [22] (.f 10 [20, 23] (.f 11 [24] (.w 14 [27] (.f 15 [25, 28] (.w 16 [5, 29] .fin)))))))))))))))))))) .o)))))) (.s .o .o)))) h (by kernel_rfl)
end Go.X
