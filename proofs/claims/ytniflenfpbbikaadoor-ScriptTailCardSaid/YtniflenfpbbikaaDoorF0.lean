/- What each function of the program computes, as a weakest precondition, printed by program; the kernel sees that the code says so. -/
import Derived.Test.YtniflenfpbbikaaDoorK
import Derived.Test.YtniflenfpbbikaaDoorProg
set_option linter.unusedVariables false
set_option linter.unusedSimpArgs false
set_option linter.unusedSectionVars false
namespace Go.X
open Go.Proofs
def W_canterhelp_Deed (a : T_i3u2si4u2bi2) (b : T_i3u2si4u2bi2) (R : Rs.T [qb] → WP) : WP :=
 new (Ks.mk K_i3u2si4u2bi2 a) fun n1 =>
 new (Ks.mk K_i3u2si4u2bi2 b) fun n2 =>
 ld ci ⟨n1, 0⟩ fun (x3 : Int) =>
 ld ci ⟨n2, 0⟩ fun (x4 : Int) =>
 ite' (x3 == x4) (
 ld ci ⟨n1, 1⟩ fun (x5 : Int) =>
 ld ci ⟨n2, 1⟩ fun (x6 : Int) =>
 ite' (x5 == x6) (
 ld ci ⟨n1, 2⟩ fun (x7 : Int) =>
 ld ci ⟨n2, 2⟩ fun (x8 : Int) =>
 ite' (x7 == x8) (
 ld cu ⟨n1, 3⟩ fun (x9 : Int) =>
 ld cu ⟨n2, 3⟩ fun (x10 : Int) =>
 ite' (x9 == x10) (
 ld cu ⟨n1, 4⟩ fun (x11 : Int) =>
 ld cu ⟨n2, 4⟩ fun (x12 : Int) =>
 ite' (x11 == x12) (
 ld cl ⟨n1, 5⟩ fun (x13 : Sl) =>
 ld cl ⟨n2, 5⟩ fun (x14 : Sl) =>
 call Tryd.prog N_canterhelp_Plain_apiRange [.lf (.sl x13), .lf (.sl x14)] [qb] fun (r15 : Bool) =>
 ite' r15 (
 ld K_i4u2bi2 ⟨n1, 6⟩ fun (x16 : T_i4u2bi2) =>
 ld K_i4u2bi2 ⟨n2, 6⟩ fun (x17 : T_i4u2bi2) =>
 R ((x16.1 == x17.1) && ((x16.2.1 == x17.2.1) && ((x16.2.2.1 == x17.2.2.1) && ((x16.2.2.2.1 == x17.2.2.2.1) && ((x16.2.2.2.2.1 == x17.2.2.2.2.1) && ((x16.2.2.2.2.2.1 == x17.2.2.2.2.2.1) && ((x16.2.2.2.2.2.2.1 == x17.2.2.2.2.2.2.1) && ((x16.2.2.2.2.2.2.2.1 == x17.2.2.2.2.2.2.2.1) && (x16.2.2.2.2.2.2.2.2 == x17.2.2.2.2.2.2.2.2)))))))))) <|
 R false) <|
 R false) <|
 R false) <|
 R false) <|
 R false) <|
 R false
theorem call_canterhelp_Deed (a : T_i3u2si4u2bi2) (b : T_i3u2si4u2bi2) (R : Rs.T [qb] → WP) (w : World) (h : W_canterhelp_Deed a b R w) : CW Tryd.prog N_canterhelp_Deed [.agg (Ks.mk K_i3u2si4u2bi2 a), .agg (Ks.mk K_i3u2si4u2bi2 b)] [qb] R w := cs Tryd.func12 (.s .o (.s .o .o)) h (by kernel_rfl)
def W_canterhelp_Plain_apiRange (a : Sl) (b : Sl) (R : Rs.T [qb] → WP) : WP :=
 call Tryd.prog N_canterhelp_Same_apiRange [.lf (.sl a), .lf (.sl b), .lf (.fn (.mk (.func N_canterhelp_Plain_apiRange_c1) [] []))] [qb] fun (r1 : Bool) =>
 R r1
theorem call_canterhelp_Plain_apiRange (a : Sl) (b : Sl) (R : Rs.T [qb] → WP) (w : World) (h : W_canterhelp_Plain_apiRange a b R w) : CW Tryd.prog N_canterhelp_Plain_apiRange [.lf (.sl a), .lf (.sl b)] [qb] R w := cs Tryd.func21 (.s .o (.s .o .o)) h (by kernel_rfl)
def W_canterhelp_Plain_apiRange_c1 (x : Int × Int) (y : Int × Int) (R : Rs.T [qb] → WP) : WP :=
 new (Ks.mk cr x) fun n1 =>
 new (Ks.mk cr y) fun n2 =>
 ld cr ⟨n1, 0⟩ fun (x3 : Int × Int) =>
 ld cr ⟨n2, 0⟩ fun (x4 : Int × Int) =>
 R ((x3.1 == x4.1) && (x3.2 == x4.2))
theorem call_canterhelp_Plain_apiRange_c1 (x : Int × Int) (y : Int × Int) (R : Rs.T [qb] → WP) (w : World) (h : W_canterhelp_Plain_apiRange_c1 x y R w) : CW Tryd.prog N_canterhelp_Plain_apiRange_c1 [.agg (Ks.mk cr x), .agg (Ks.mk cr y)] [qb] R w := cs Tryd.func30 (.s .o (.s .o .o)) h (by kernel_rfl)
def W_canterhelp_Same_apiDeed (a : Sl) (b : Sl) (one : Fv) (R : Rs.T [qb] → WP) : WP :=
 ite' (((a.len : Nat) : Int) != ((b.len : Nat) : Int)) (
 R false) <|
 loop ci (0:Int) fun J1 (y2 : Int) =>
 ite' (decide (y2 < ((a.len : Nat) : Int))) (
 drw <|
 idx a y2 15 fun q3 =>
 idx b y2 15 fun q4 =>
 ld K_i3u2si4u2bi2 q3 fun (x5 : T_i3u2si4u2bi2) =>
 ld K_i3u2si4u2bi2 q4 fun (x6 : T_i3u2si4u2bi2) =>
 callv Tryd.prog one [.agg (Ks.mk K_i3u2si4u2bi2 x5), .agg (Ks.mk K_i3u2si4u2bi2 x6)] [qb] fun (r7 : Bool) =>
 ite' (!r7) (
 R false) <|
 J1 (IntKind.i64.wrap (y2 + (1:Int)))) <|
 R true
theorem call_canterhelp_Same_apiDeed (a : Sl) (b : Sl) (one : Fv) (R : Rs.T [qb] → WP) (w : World) (h : W_canterhelp_Same_apiDeed a b one R w) : CW Tryd.prog N_canterhelp_Same_apiDeed [.lf (.sl a), .lf (.sl b), .lf (.fn one)] [qb] R w := cs Tryd.func9 (.s .o (.s (.s .o (.s (.s .o .o) .o)) (.s (.s .o (.b (.l [(7, qi)] (.s (.s .o (.s .o .o)) (.s (.b (.s (.d (.f 0 [2] (.f 1 [0] (.f 2 [7] (.f 5 [1] (.f 6 [7] (.f 3 [20, 21] (.f 7 [24, 25] (.f 4 [22] (.f 8 [26] (.w 9 [19, 23, 27] (.f 10 [28] .fin)))))))))))) (.s (.s .o .o) .o))) .o))))) (.s .o .o)))) h (by kernel_rfl)
def W_canterhelp_Same_apiRange (a : Sl) (b : Sl) (one : Fv) (R : Rs.T [qb] → WP) : WP :=
 ite' (((a.len : Nat) : Int) != ((b.len : Nat) : Int)) (
 R false) <|
 loop ci (0:Int) fun J1 (y2 : Int) =>
 ite' (decide (y2 < ((a.len : Nat) : Int))) (
 drw <|
 idx a y2 2 fun q3 =>
 idx b y2 2 fun q4 =>
 ld cr q3 fun (x5 : Int × Int) =>
 ld cr q4 fun (x6 : Int × Int) =>
 callv Tryd.prog one [.agg (Ks.mk cr x5), .agg (Ks.mk cr x6)] [qb] fun (r7 : Bool) =>
 ite' (!r7) (
 R false) <|
 J1 (IntKind.i64.wrap (y2 + (1:Int)))) <|
 R true
theorem call_canterhelp_Same_apiRange (a : Sl) (b : Sl) (one : Fv) (R : Rs.T [qb] → WP) (w : World) (h : W_canterhelp_Same_apiRange a b one R w) : CW Tryd.prog N_canterhelp_Same_apiRange [.lf (.sl a), .lf (.sl b), .lf (.fn one)] [qb] R w := cs Tryd.func29 (.s .o (.s (.s .o (.s (.s .o .o) .o)) (.s (.s .o (.b (.l [(7, qi)] (.s (.s .o (.s .o .o)) (.s (.b (.s (.d (.f 0 [2] (.f 1 [0] (.f 2 [7] (.f 5 [1] (.f 6 [7] (.f 3 [20, 21] (.f 7 [24, 25] (.f 4 [22] (.f 8 [26] (.w 9 [19, 23, 27] (.f 10 [28] .fin)))))))))))) (.s (.s .o .o) .o))) .o))))) (.s .o .o)))) h (by kernel_rfl)
def W_canterlaw28_ScriptTail (b : Sl) (more : Sl) (R : Rs.T [qb] → WP) : WP :=
 ite' ((decide (((b.len : Nat) : Int) > (1500:Int))) || (decide (((more.len : Nat) : Int) > (900:Int)))) (
 call Tryd.prog N_canterlaw28_awake [] [qb] fun (r1 : Bool) =>
 R r1) <|
 slc b none (some (IntKind.i64.wrap ((IntKind.i64.wrap (((b.len : Nat) : Int).tdiv (6:Int))) * (6:Int)))) none 1 fun s2 =>
 call Tryd.prog N_script_Decode [.lf (.sl s2)] [qs] fun (r3 : Sl) =>
 slc b none (some (IntKind.i64.wrap ((IntKind.i64.wrap (((b.len : Nat) : Int).tdiv (6:Int))) * (6:Int)))) none 1 fun s4 =>
 app 1 ⟨none, 0, 0⟩ s4 fun s5 =>
 app 1 s5 more fun s6 =>
 call Tryd.prog N_script_Decode [.lf (.sl s6)] [qs] fun (r7 : Sl) =>
 call Tryd.prog N_canterlaw28_awake [] [qb] fun (r8 : Bool) =>
 ite' (r8 && (((r3.len : Nat) : Int) == (if (IntKind.i64.wrap ((IntKind.i64.wrap ((IntKind.i64.wrap (((b.len : Nat) : Int).tdiv (6:Int))) * (6:Int))).tdiv (6:Int))) < (300:Int) then (IntKind.i64.wrap ((IntKind.i64.wrap ((IntKind.i64.wrap (((b.len : Nat) : Int).tdiv (6:Int))) * (6:Int))).tdiv (6:Int))) else (300:Int)))) (
 ite' (((r7.len : Nat) : Int) == (if (IntKind.i64.wrap ((IntKind.i64.wrap ((IntKind.i64.wrap ((IntKind.i64.wrap (((b.len : Nat) : Int).tdiv (6:Int))) * (6:Int))).tdiv (6:Int))) + (IntKind.i64.wrap ((IntKind.i64.wrap (((more.len : Nat) : Int) + (5:Int))).tdiv (6:Int))))) < (300:Int) then (IntKind.i64.wrap ((IntKind.i64.wrap ((IntKind.i64.wrap ((IntKind.i64.wrap (((b.len : Nat) : Int).tdiv (6:Int))) * (6:Int))).tdiv (6:Int))) + (IntKind.i64.wrap ((IntKind.i64.wrap (((more.len : Nat) : Int) + (5:Int))).tdiv (6:Int))))) else (300:Int))) (
 slc r7 none (some (if (IntKind.i64.wrap ((IntKind.i64.wrap ((IntKind.i64.wrap (((b.len : Nat) : Int).tdiv (6:Int))) * (6:Int))).tdiv (6:Int))) < (300:Int) then (IntKind.i64.wrap ((IntKind.i64.wrap ((IntKind.i64.wrap (((b.len : Nat) : Int).tdiv (6:Int))) * (6:Int))).tdiv (6:Int))) else (300:Int))) none 15 fun s9 =>
 call Tryd.prog N_canterhelp_Same_apiDeed [.lf (.sl s9), .lf (.sl r3), .lf (.fn (.mk (.func N_canterhelp_Deed) [] []))] [qb] fun (r10 : Bool) =>
 R r10) <|
 R false) <|
 R false
theorem call_canterlaw28_ScriptTail (b : Sl) (more : Sl) (R : Rs.T [qb] → WP) (w : World) (h : W_canterlaw28_ScriptTail b more R w) : CW Tryd.prog N_canterlaw28_ScriptTail [.lf (.sl b), .lf (.sl more)] [qb] R w := cs Tryd.func5 (.s .o (.s (.s .o (.s (.s .o .o) .o)) (.s .o (.s .o (.s .o (.s .o (.s .o .o))))))) h (by kernel_rfl)
def W_canterlaw28_awake  (R : Rs.T [qb] → WP) : WP :=
 new [.int .u8 (1:Int), .int .u8 (2:Int)] fun n1 =>
 call Tryd.prog N_script_Decode [.lf (.sl ⟨some ⟨n1, 0⟩, 2, 2⟩)] [qs] fun (r2 : Sl) =>
 ite' (((r2.len : Nat) : Int) == (1:Int)) (
 idx r2 (0:Int) 15 fun q3 =>
 ld ci q3 fun (x4 : Int) =>
 ite' (x4 == (1:Int)) (
 idx r2 (0:Int) 15 fun q5 =>
 lo ci q5 1 fun (x6 : Int) =>
 ite' (x6 == (2:Int)) (
 new [.int .i64 (5:Int)] fun n7 =>
 call Tryd.prog N_script_Text [.lf (.sl ⟨none, 0, 0⟩), .lf (.sl ⟨some ⟨n7, 0⟩, 1, 1⟩)] [.lf .str] fun (r8 : ByteArray) =>
 ite' (r8.toList == (⟨#[53, 10]⟩ : ByteArray).toList) (
 call Tryd.prog N_script_Plain [] [.agg K_i4u2bi2] fun (r9 : T_i4u2bi2) =>
 call Tryd.prog N_canterref20_Plain [] [.agg K_i4u2bi2] fun (r10 : T_i4u2bi2) =>
 R ((r9.1 == r10.1) && ((r9.2.1 == r10.2.1) && ((r9.2.2.1 == r10.2.2.1) && ((r9.2.2.2.1 == r10.2.2.2.1) && ((r9.2.2.2.2.1 == r10.2.2.2.2.1) && ((r9.2.2.2.2.2.1 == r10.2.2.2.2.2.1) && ((r9.2.2.2.2.2.2.1 == r10.2.2.2.2.2.2.1) && ((r9.2.2.2.2.2.2.2.1 == r10.2.2.2.2.2.2.2.1) && (r9.2.2.2.2.2.2.2.2 == r10.2.2.2.2.2.2.2.2)))))))))) <|
 R false) <|
 R false) <|
 R false) <|
 R false
theorem call_canterlaw28_awake  (R : Rs.T [qb] → WP) (w : World) (h : W_canterlaw28_awake  R w) : CW Tryd.prog N_canterlaw28_awake [] [qb] R w := cs Tryd.func7 (.s .o (.s .o (.s .o .o))) h (by kernel_rfl)
def W_canterref20_Plain  (R : Rs.T [.agg K_i4u2bi2] → WP) : WP :=
 new [zi, zi, zi, zi, zu, zu, .bool false, zi, zi] fun n1 =>
 st ⟨n1, 0⟩ [.int .i64 (3000:Int), .int .i64 (15000:Int), .int .i64 (100:Int), .int .i64 (50:Int), .int .u64 (10000000000:Int), zu, .bool false, .int .i64 (100000:Int), .int .i64 (1000:Int)] <|
 ld K_i4u2bi2 ⟨n1, 0⟩ fun (x2 : T_i4u2bi2) =>
 R x2
theorem call_canterref20_Plain  (R : Rs.T [.agg K_i4u2bi2] → WP) (w : World) (h : W_canterref20_Plain  R w) : CW Tryd.prog N_canterref20_Plain [] [.agg K_i4u2bi2] R w := cs Tryd.func18 (.s .o (.s .o .o)) h (by kernel_rfl)
def W_script_Decode (b : Sl) (R : Rs.T [qs] → WP) : WP :=
 loop [.sl, .sl] (b, ⟨none, 0, 0⟩) fun J1 (y2 : Sl × Sl) =>
 ite' (decide (((y2.1.len : Nat) : Int) > (0:Int))) (
 ite' (((y2.2.len : Nat) : Int) == (300:Int)) (
 R y2.2) <|
 new [zi, zi, zi, zi, zi, zi] fun n3 =>
 slc y2.1 none (some (if (6:Int) < ((y2.1.len : Nat) : Int) then (6:Int) else ((y2.1.len : Nat) : Int))) none 1 fun s4 =>
 loop ci (0:Int) fun J5 (y6 : Int) =>
 ite' (decide (y6 < ((s4.len : Nat) : Int))) (
 idx s4 y6 1 fun q7 =>
 ld [.int .u8] q7 fun (x8 : Int) =>
 req (0 ≤ y6 ∧ y6 < 6) <|
 st ⟨n3, 0 + y6.toNat * 1⟩ [.int .i64 (IntKind.i64.wrap x8)] <|
 J5 (IntKind.i64.wrap (y6 + (1:Int)))) <|
 slc y2.1 (some (if (6:Int) < ((y2.1.len : Nat) : Int) then (6:Int) else ((y2.1.len : Nat) : Int))) none none 1 fun s9 =>
 ld K_i6 ⟨n3, 0⟩ fun (x10 : T_i6) =>
 call Tryd.prog N_script_deed [.agg (Ks.mk K_i6 x10)] [.agg K_i3u2si4u2bi2] fun (r11 : T_i3u2si4u2bi2) =>
 new [.int .i64 r11.1, .int .i64 r11.2.1, .int .i64 r11.2.2.1, .int .u64 r11.2.2.2.1, .int .u64 r11.2.2.2.2.1, .sl r11.2.2.2.2.2.1, .int .i64 r11.2.2.2.2.2.2.1, .int .i64 r11.2.2.2.2.2.2.2.1, .int .i64 r11.2.2.2.2.2.2.2.2.1, .int .i64 r11.2.2.2.2.2.2.2.2.2.1, .int .u64 r11.2.2.2.2.2.2.2.2.2.2.1, .int .u64 r11.2.2.2.2.2.2.2.2.2.2.2.1, .bool r11.2.2.2.2.2.2.2.2.2.2.2.2.1, .int .i64 r11.2.2.2.2.2.2.2.2.2.2.2.2.2.1, .int .i64 r11.2.2.2.2.2.2.2.2.2.2.2.2.2.2] fun n12 =>
 app 15 y2.2 ⟨some ⟨n12, 0⟩, 1, 1⟩ fun s13 =>
 J1 (s9, s13)) <|
 R y2.2
theorem call_script_Decode (b : Sl) (R : Rs.T [qs] → WP) (w : World) (h : W_script_Decode b R w) : CW Tryd.prog N_script_Decode [.lf (.sl b)] [qs] R w := cs Tryd.func10 (.s .o (.s .o (.s .o (.s (.b (.l [(0, qs), (3, qs)] (.s (.s .o (.s .o .o)) (.b (.s (.s .o (.s .o .o)) (.s .o (.s .o (.s (.s .o (.b (.l [(21, qi)] (.s .o (.s (.s .o .o) (.s (.b (.s .o .o)) .o)))))) (.s .o .o))))))))) (.s .o .o))))) h (by kernel_rfl)
def W_script_Plain  (R : Rs.T [.agg K_i4u2bi2] → WP) : WP :=
 new [zi, zi, zi, zi, zu, zu, .bool false, zi, zi] fun n1 =>
 st ⟨n1, 0⟩ [.int .i64 (3000:Int), .int .i64 (15000:Int), .int .i64 (100:Int), .int .i64 (50:Int), .int .u64 (10000000000:Int), zu, .bool false, .int .i64 (100000:Int), .int .i64 (1000:Int)] <|
 ld K_i4u2bi2 ⟨n1, 0⟩ fun (x2 : T_i4u2bi2) =>
 R x2
theorem call_script_Plain  (R : Rs.T [.agg K_i4u2bi2] → WP) (w : World) (h : W_script_Plain  R w) : CW Tryd.prog N_script_Plain [] [.agg K_i4u2bi2] R w := cs Tryd.func17 (.s .o (.s .o .o)) h (by kernel_rfl)
def W_script_Text (outs : Sl) (errs : Sl) (R : Rs.T [.lf .str] → WP) : WP :=
 newT 61 [.ptr none, .sl ⟨none, 0, 0⟩] fun n1 =>
 loop ci (0:Int) fun J2 (y3 : Int) =>
 ite' (decide (y3 < ((errs.len : Nat) : Int))) (
 idx errs y3 1 fun q4 =>
 ld ci q4 fun (x5 : Int) =>
 call Tryd.prog N_script_digits [vi x5] [.lf .str] fun (r6 : ByteArray) =>
 call Tryd.prog N_strings_Builder_WriteString [.lf (.ptr (some ⟨n1, 0⟩)), .lf (.str r6)] [qi, .lf .ifc] fun (r7 : Int × Unit) =>
 join [] (fun J8 =>
 ite' (decide (y3 < ((outs.len : Nat) : Int))) (
 idx outs y3 4 fun q10 =>
 ld K_s3u q10 fun (x11 : T_s3u) =>
 new [.sl ⟨none, 0, 0⟩, .sl ⟨none, 0, 0⟩, .sl ⟨none, 0, 0⟩, zu] fun n12 =>
 st ⟨n12, 0⟩ (Ks.mk K_s3u x11) <|
 drw <|
 ld cl ⟨n12, 0⟩ fun (x13 : Sl) =>
 ld cl ⟨n12, 1⟩ fun (x14 : Sl) =>
 call Tryd.prog N_script_segs [.lf (.str (⟨#[43]⟩ : ByteArray)), .lf (.sl x13)] [.lf .str] fun (r15 : ByteArray) =>
 chk ⟨n12, 1⟩ (Ks.mk cl x14) <|
 call Tryd.prog N_script_segs [.lf (.str (⟨#[45]⟩ : ByteArray)), .lf (.sl x14)] [.lf .str] fun (r16 : ByteArray) =>
 req (((r15.size + r16.size : Nat) : Int) ≤ IntKind.i64.max) <|
 call Tryd.prog N_strings_Builder_WriteString [.lf (.ptr (some ⟨n1, 0⟩)), .lf (.str (r15 ++ r16))] [qi, .lf .ifc] fun (r17 : Int × Unit) =>
 ld cu ⟨n12, 3⟩ fun (x18 : Int) =>
 ite' (x18 != (0:Int)) (
 ld cu ⟨n12, 3⟩ fun (x19 : Int) =>
 call Tryd.prog N_strconv_FormatUint [vu x19, .lf (.int .i64 (10:Int))] [.lf .str] fun (r20 : ByteArray) =>
 req ((((⟨#[32, 64]⟩ : ByteArray).size + r20.size : Nat) : Int) ≤ IntKind.i64.max) <|
 call Tryd.prog N_strings_Builder_WriteString [.lf (.ptr (some ⟨n1, 0⟩)), .lf (.str ((⟨#[32, 64]⟩ : ByteArray) ++ r20))] [qi, .lf .ifc] fun (r21 : Int × Unit) =>
 J8 ()) <|
 J8 ()) <|
 J8 ()) fun (y9 : Unit) =>
 call Tryd.prog N_strings_Builder_WriteString [.lf (.ptr (some ⟨n1, 0⟩)), .lf (.str (⟨#[10]⟩ : ByteArray))] [qi, .lf .ifc] fun (r22 : Int × Unit) =>
 J2 (IntKind.i64.wrap (y3 + (1:Int)))) <|
 call Tryd.prog N_strings_Builder_String [.lf (.ptr (some ⟨n1, 0⟩))] [.lf .str] fun (r23 : ByteArray) =>
 R r23
theorem call_script_Text (outs : Sl) (errs : Sl) (R : Rs.T [.lf .str] → WP) (w : World) (h : W_script_Text outs errs R w) : CW Tryd.prog N_script_Text [.lf (.sl outs), .lf (.sl errs)] [.lf .str] R w := cs Tryd.func14 (.s .o (.s .o (.s (.s .o (.b (.l [(11, qi)] (.s .o (.s (.s .o .o) (.s (.b (.s .o (.s .o (.j [] (.s .o (.s (.s .o (.s (.d (.f 0 [8] (.f 3 [8] (.f 1 [27] (.f 4 [30] (.w 2 [28] (.w 5 [31] (.f 6 [29, 32] (.w 7 [5, 33] .fin))))))))) (.s .o (.s .o .o)))) .o)) .o)))) .o)))))) (.s .o .o)))) h (by kernel_rfl)
def W_script_deed (d : T_i6) (R : Rs.T [.agg K_i3u2si4u2bi2] → WP) : WP :=
 new (Ks.mk K_i6 d) fun n1 =>
 new [zi, zi, zi, zu, zu, .sl ⟨none, 0, 0⟩, zi, zi, zi, zi, zu, zu, .bool false, zi, zi] fun n2 =>
 drw <|
 req (0 ≤ (0:Int) ∧ (0:Int) < 6) <|
 req (0 ≤ (1:Int) ∧ (1:Int) < 6) <|
 req (0 ≤ (2:Int) ∧ (2:Int) < 6) <|
 req (0 ≤ (3:Int) ∧ (3:Int) < 6) <|
 req (0 ≤ (4:Int) ∧ (4:Int) < 6) <|
 req (0 ≤ (5:Int) ∧ (5:Int) < 6) <|
 ld ci ⟨n1, 0 + (0:Int).toNat * 1⟩ fun (x3 : Int) =>
 ld ci ⟨n1, 0 + (1:Int).toNat * 1⟩ fun (x4 : Int) =>
 ld ci ⟨n1, 0 + (2:Int).toNat * 1⟩ fun (x5 : Int) =>
 ld ci ⟨n1, 0 + (3:Int).toNat * 1⟩ fun (x6 : Int) =>
 ld ci ⟨n1, 0 + (4:Int).toNat * 1⟩ fun (x7 : Int) =>
 ld ci ⟨n1, 0 + (5:Int).toNat * 1⟩ fun (x8 : Int) =>
 chk ⟨n1, 0 + (5:Int).toNat * 1⟩ (Ks.mk ci x8) <|
 chk ⟨n1, 0 + (4:Int).toNat * 1⟩ (Ks.mk ci x7) <|
 chk ⟨n1, 0 + (3:Int).toNat * 1⟩ (Ks.mk ci x6) <|
 chk ⟨n1, 0 + (2:Int).toNat * 1⟩ (Ks.mk ci x5) <|
 chk ⟨n1, 0 + (1:Int).toNat * 1⟩ (Ks.mk ci x4) <|
 chk ⟨n1, 0 + (5:Int).toNat * 1⟩ (Ks.mk ci x8) <|
 chk ⟨n1, 0 + (4:Int).toNat * 1⟩ (Ks.mk ci x7) <|
 chk ⟨n1, 0 + (3:Int).toNat * 1⟩ (Ks.mk ci x6) <|
 chk ⟨n1, 0 + (2:Int).toNat * 1⟩ (Ks.mk ci x5) <|
 chk ⟨n1, 0 + (5:Int).toNat * 1⟩ (Ks.mk ci x8) <|
 chk ⟨n1, 0 + (4:Int).toNat * 1⟩ (Ks.mk ci x7) <|
 chk ⟨n1, 0 + (3:Int).toNat * 1⟩ (Ks.mk ci x6) <|
 chk ⟨n1, 0 + (5:Int).toNat * 1⟩ (Ks.mk ci x8) <|
 chk ⟨n1, 0 + (4:Int).toNat * 1⟩ (Ks.mk ci x7) <|
 chk ⟨n1, 0 + (5:Int).toNat * 1⟩ (Ks.mk ci x8) <|
 call Tryd.prog N_script_Plain [] [.agg K_i4u2bi2] fun (r9 : T_i4u2bi2) =>
 new [zi, zi, zi, zu, zu, .sl ⟨none, 0, 0⟩, zi, zi, zi, zi, zu, zu, .bool false, zi, zi] fun n10 =>
 st ⟨n10, 0⟩ [.int .i64 (x3.tmod (10:Int)), .int .i64 (x4.tmod (9:Int)), .int .i64 (IntKind.i64.wrap (x5 * (100:Int))), .int .u64 (IntKind.u64.wrap (IntKind.i64.wrap ((IntKind.i64.wrap (x6 * (1000:Int))) + x7))), .int .u64 (IntKind.u64.wrap (IntKind.i64.wrap ((IntKind.i64.wrap (x6 * (100000000:Int))) + (IntKind.i64.wrap (x7 * (1000000:Int)))))), .sl ⟨none, 0, 0⟩, .int .i64 r9.1, .int .i64 r9.2.1, .int .i64 r9.2.2.1, .int .i64 r9.2.2.2.1, .int .u64 r9.2.2.2.2.1, .int .u64 r9.2.2.2.2.2.1, .bool r9.2.2.2.2.2.2.1, .int .i64 r9.2.2.2.2.2.2.2.1, .int .i64 r9.2.2.2.2.2.2.2.2] <|
 join [] (fun J11 =>
 ite' ((x8.tmod (2:Int)) == (1:Int)) (
 new [.int .u64 (IntKind.u64.wrap (IntKind.i64.wrap (x7 * (100:Int)))), .int .u64 (IntKind.u64.wrap (IntKind.i64.wrap ((IntKind.i64.wrap (x7 * (100:Int))) + (IntKind.i64.wrap (x8 * (100:Int))))))] fun n13 =>
 st ⟨n10, 5⟩ [.sl ⟨some ⟨n13, 0⟩, 1, 1⟩] <|
 J11 ()) <|
 J11 ()) fun (y12 : Unit) =>
 st ⟨n10, 6⟩ [.int .i64 (IntKind.i64.wrap (x5 * (100:Int)))] <|
 st ⟨n10, 11⟩ [.int .u64 (IntKind.u64.wrap (IntKind.i64.wrap (x6 * (10000:Int))))] <|
 st ⟨n10, 8⟩ [.int .i64 x7] <|
 st ⟨n10, 12⟩ [.bool ((x8.tmod (2:Int)) == (1:Int))] <|
 ld K_i3u2si4u2bi2 ⟨n10, 0⟩ fun (x14 : T_i3u2si4u2bi2) =>
 st ⟨n2, 0⟩ (Ks.mk K_i3u2si4u2bi2 x14) <|
 ld K_i3u2si4u2bi2 ⟨n2, 0⟩ fun (x15 : T_i3u2si4u2bi2) =>
 R x15
theorem call_script_deed (d : T_i6) (R : Rs.T [.agg K_i3u2si4u2bi2] → WP) (w : World) (h : W_script_deed d R w) : CW Tryd.prog N_script_deed [.agg (Ks.mk K_i6 d)] [.agg K_i3u2si4u2bi2] R w := cs Tryd.func19 (.s .o (.s (.d (.f 0 [1] (.f 2 [1] (.f 4 [1] (.f 6 [1] (.f 8 [1] (.f 10 [1] (.f 1 [10] (.f 3 [12] (.f 5 [14] (.f 7 [16] (.f 9 [18] (.f 11 [20] (.w 12 [11] (.w 13 [13] (.w 14 [15] (.w 15 [17] (.w 16 [19] (.w 17 [21] .fin))))))))))))))))))) (.s .o (.j [] (.s .o (.s .o .o)) (.s .o (.s .o .o)))))) h (by kernel_rfl)
def W_script_digits (v : Int) (R : Rs.T [.lf .str] → WP) : WP :=
 call Tryd.prog N_strconv_Itoa [.lf (.int .i64 (if (0:Int) > v then (0:Int) else v))] [.lf .str] fun (r1 : ByteArray) =>
 R r1
theorem call_script_digits (v : Int) (R : Rs.T [.lf .str] → WP) (w : World) (h : W_script_digits v R w) : CW Tryd.prog N_script_digits [vi v] [.lf .str] R w := cs Tryd.func24 (.s .o (.s .o .o)) h (by kernel_rfl)
def W_script_segs (sign : ByteArray) (l : Sl) (R : Rs.T [.lf .str] → WP) : WP :=
 newT 61 [.ptr none, .sl ⟨none, 0, 0⟩] fun n1 =>
 loop ci (0:Int) fun J2 (y3 : Int) =>
 ite' (decide (y3 < ((l.len : Nat) : Int))) (
 idx l y3 5 fun q4 =>
 ld K_iuiub q4 fun (x5 : T_iuiub) =>
 new [zi, zu, zi, zu, .bool false] fun n6 =>
 st ⟨n6, 0⟩ (Ks.mk K_iuiub x5) <|
 drw <|
 req ((((⟨#[32]⟩ : ByteArray).size + sign.size : Nat) : Int) ≤ IntKind.i64.max) <|
 ld ci ⟨n6, 0⟩ fun (x7 : Int) =>
 ld cu ⟨n6, 1⟩ fun (x8 : Int) =>
 ld ci ⟨n6, 2⟩ fun (x9 : Int) =>
 call Tryd.prog N_script_digits [vi x7] [.lf .str] fun (r10 : ByteArray) =>
 chk ⟨n6, 2⟩ (Ks.mk ci x9) <|
 chk ⟨n6, 1⟩ (Ks.mk cu x8) <|
 req (((((⟨#[32]⟩ : ByteArray) ++ sign).size + r10.size : Nat) : Int) ≤ IntKind.i64.max) <|
 req ((((((⟨#[32]⟩ : ByteArray) ++ sign) ++ r10).size + (⟨#[58]⟩ : ByteArray).size : Nat) : Int) ≤ IntKind.i64.max) <|
 call Tryd.prog N_strconv_FormatUint [vu x8, .lf (.int .i64 (10:Int))] [.lf .str] fun (r11 : ByteArray) =>
 chk ⟨n6, 2⟩ (Ks.mk ci x9) <|
 req (((((((⟨#[32]⟩ : ByteArray) ++ sign) ++ r10) ++ (⟨#[58]⟩ : ByteArray)).size + r11.size : Nat) : Int) ≤ IntKind.i64.max) <|
 req ((((((((⟨#[32]⟩ : ByteArray) ++ sign) ++ r10) ++ (⟨#[58]⟩ : ByteArray)) ++ r11).size + (⟨#[58]⟩ : ByteArray).size : Nat) : Int) ≤ IntKind.i64.max) <|
 call Tryd.prog N_script_digits [vi x9] [.lf .str] fun (r12 : ByteArray) =>
 req (((((((((⟨#[32]⟩ : ByteArray) ++ sign) ++ r10) ++ (⟨#[58]⟩ : ByteArray)) ++ r11) ++ (⟨#[58]⟩ : ByteArray)).size + r12.size : Nat) : Int) ≤ IntKind.i64.max) <|
 call Tryd.prog N_strings_Builder_WriteString [.lf (.ptr (some ⟨n1, 0⟩)), .lf (.str (((((((⟨#[32]⟩ : ByteArray) ++ sign) ++ r10) ++ (⟨#[58]⟩ : ByteArray)) ++ r11) ++ (⟨#[58]⟩ : ByteArray)) ++ r12))] [qi, .lf .ifc] fun (r13 : Int × Unit) =>
 J2 (IntKind.i64.wrap (y3 + (1:Int)))) <|
 call Tryd.prog N_strings_Builder_String [.lf (.ptr (some ⟨n1, 0⟩))] [.lf .str] fun (r14 : ByteArray) =>
 R r14
theorem call_script_segs (sign : ByteArray) (l : Sl) (R : Rs.T [.lf .str] → WP) (w : World) (h : W_script_segs sign l R w) : CW Tryd.prog N_script_segs [.lf (.str sign), .lf (.sl l)] [.lf .str] R w := cs Tryd.func25 (.s .o (.s .o (.s (.s .o (.b (.l [(10, qi)] (.s .o (.s (.s .o .o) (.s (.b (.s .o (.d (.f 0 [0] (.f 2 [7] (.f 7 [7] (.f 12 [7] (.f 1 [14] (.f 3 [16] (.f 8 [21] (.f 13 [26] (.w 4 [17] (.f 5 [15, 18] (.f 6 [19] (.w 9 [22] (.f 10 [20, 23] (.f 11 [24] (.w 14 [27] (.f 15 [25, 28] (.w 16 [5, 29] .fin)))))))))))))))))))) .o)))))) (.s .o .o)))) h (by kernel_rfl)
end Go.X
