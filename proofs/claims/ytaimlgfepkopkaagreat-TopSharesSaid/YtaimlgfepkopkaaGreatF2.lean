/- What each function of the program computes, as a weakest precondition, printed by program; the kernel sees that the code says so. -/
import Derived.Test.YtaimlgfepkopkaaGreatK
import Derived.Test.YtaimlgfepkopkaaGreatProg
set_option linter.unusedVariables false
set_option linter.unusedSimpArgs false
set_option linter.unusedSectionVars false
namespace Go.X
open Go.Proofs
def W_sock_Sock_learn (s : Option Pt) (now : Int) (lost : Int) (R : Rs.T [] → WP) : WP :=
 drw <|
 deref s fun q1 =>
 deref s fun q2 =>
 lo cp q1 6 fun (x3 : Option Pt) =>
 lo cp q2 5 fun (x4 : Option Pt) =>
 call Tryz.prog N_sock_Sock_Flight [vp s] [qu] fun (r5 : Int) =>
 ck q2 5 cp x4 <|
 ck q1 6 cp x3 <|
 call Tryz.prog N_sampler_Sampler_Take [vp x4, vu now, vu lost, vu r5] [.agg K_u8b] fun (r6 : T_u8b) =>
 ck q1 6 cp x3 <|
 call Tryz.prog N_sock_Sock_Tso [vp s] [qi] fun (r7 : Int) =>
 ck q1 6 cp x3 <|
 call Tryz.prog N_bbr_Model_Update [vp x3, .agg (Ks.mk K_u8b r6), .lf (.int .u64 (IntKind.u64.wrap r7))] [.agg K_i2u6b2] fun (r8 : T_i2u6b2) =>
 R ()
theorem call_sock_Sock_learn (s : Option Pt) (now : Int) (lost : Int) (R : Rs.T [] → WP) (w : World) (h : W_sock_Sock_learn s now lost R w) : CW Tryz.prog N_sock_Sock_learn [vp s, vu now, vu lost] [] R w := cs Tryz.func180 (.d (.f 0 [0] (.f 4 [0] (.f 8 [1] (.f 9 [2] (.f 10 [0] (.f 13 [0] (.f 1 [6] (.f 5 [10] (.f 2 [7] (.f 6 [11] (.f 3 [8] (.f 7 [12] (.w 11 [16] (.w 12 [13, 14, 15, 17] (.w 14 [19] (.f 15 [20] (.w 16 [9, 18, 21] .fin)))))))))))))))))) h (by kernel_rfl)
def W_sock_Sock_may (d : Option Pt) (R : Rs.T [qi] → WP) : WP :=
 deref d fun q1 =>
 lo cp q1 4 fun (x2 : Option Pt) =>
 call Tryz.prog N_board_Board_Lost [vp x2] [.agg [.int .u64, .int .u64], qb] fun (r3 : (Int × Int) × Bool) =>
 new [zu, zu] fun n4 =>
 st ⟨n4, 0⟩ (Ks.mk cr r3.1) <|
 deref d fun q5 =>
 lo cp q5 6 fun (x6 : Option Pt) =>
 call Tryz.prog N_bbr_Model_State [vp x6] [.agg K_i2u6b2] fun (r7 : T_i2u6b2) =>
 new [zi, zi, zu, zu, zu, zu, zu, zu, .bool false, .bool false] fun n8 =>
 st ⟨n8, 0⟩ (Ks.mk K_i2u6b2 r7) <|
 drw <|
 ld cu ⟨n8, 3⟩ fun (x9 : Int) =>
 call Tryz.prog N_sock_Sock_Flight [vp d] [qu] fun (r10 : Int) =>
 chk ⟨n8, 3⟩ (Ks.mk cu x9) <|
 join cb (fun J11 =>
 ite' (!r3.2) (
 deref d fun q13 =>
 lo cp q13 3 fun (x14 : Option Pt) =>
 call Tryz.prog N_buffer_Buffer_Unsent [vp x14] [qu] fun (r15 : Int) =>
 J11 (r15 == (0:Int))) <|
 J11 false) fun (y12 : Bool) =>
 ite' y12 (
 ite' (decide (r10 < x9)) (
 drw <|
 deref d fun q16 =>
 lo cp q16 5 fun (x17 : Option Pt) =>
 call Tryz.prog N_sock_Sock_Flight [vp d] [qu] fun (r18 : Int) =>
 ck q16 5 cp x17 <|
 call Tryz.prog N_sampler_Sampler_Limit [vp x17, vu r18] [] fun (r19 : Unit) =>
 R (7:Int)) <|
 R (7:Int)) <|
 join cb (fun J20 =>
 drw <|
 ite' (!(decide (r10 < x9))) (
 J20 true) <|
 deref d fun q22 =>
 ld cu ⟨n8, 2⟩ fun (x23 : Int) =>
 deref d fun q24 =>
 lo cu q22 7 fun (x25 : Int) =>
 lo ci q24 2 fun (x26 : Int) =>
 call Tryz.prog N_sock_Sock_Tso [vp d] [qi] fun (r27 : Int) =>
 ck q24 2 ci x26 <|
 ck q22 7 cu x25 <|
 chk ⟨n8, 2⟩ (Ks.mk cu x23) <|
 call Tryz.prog N_tsq_Limit [vu x23, vi r27, vi x26] [qu] fun (r28 : Int) =>
 ck q22 7 cu x25 <|
 call Tryz.prog N_tsq_May [vu x25, vu r28] [qb] fun (r29 : Bool) =>
 J20 (!r29)) fun (y21 : Bool) =>
 ite' y21 (
 R (5:Int)) <|
 ite' (!r3.2) (
 deref d fun q30 =>
 lo cp q30 4 fun (x31 : Option Pt) =>
 call Tryz.prog N_board_Board_Len [vp x31] [qi] fun (r32 : Int) =>
 ite' (decide (r32 ≥ (4096:Int))) (
 R (5:Int)) <|
 R (0:Int)) <|
 R (0:Int)
theorem call_sock_Sock_may (d : Option Pt) (R : Rs.T [qi] → WP) (w : World) (h : W_sock_Sock_may d R w) : CW Tryz.prog N_sock_Sock_may [vp d] [qi] R w := cs Tryz.func182 (.s .o (.s .o (.s .o (.s (.d (.f 0 [0] (.f 2 [5] (.f 3 [22] (.w 1 [20] (.f 4 [21, 23] (.w 5 [24] .fin))))))) (.s (.b (.j [(25, qb)] .o (.s (.s (.s .o (.s (.d (.f 0 [0] (.f 4 [0] (.f 1 [37] (.f 2 [38] (.f 3 [39] (.w 5 [41] (.w 6 [40, 42] .fin)))))))) .o)) (.s .o .o)) (.j [(44, qb)] (.d (.f 0 [6] (.f 1 [45] (.f 2 [46] (.f 3 [0, 47] (.f 7 [5, 47] (.f 9 [0, 47] (.f 11 [0, 47] (.f 4 [47, 48] (.f 8 [47, 52] (.f 12 [47, 56] (.f 5 [47, 49] (.f 13 [47, 57] (.f 6 [47, 50] (.f 14 [47, 58] (.w 10 [47, 54] (.w 15 [47, 53, 55, 59] (.w 16 [47, 51, 60] (.f 17 [47, 61] (.f 18 [47, 62] (.w 19 [63] .fin))))))))))))))))))))) (.s (.s .o .o) (.s .o (.s (.s .o .o) .o))))))) (.s .o .o)))))) h (by kernel_rfl)
def W_target_Bdp (bw : Int) (rtt : Int) (gain : Int) (R : Rs.T [qu] → WP) : WP :=
 new [.int .u64 rtt, .int .u64 (1000000000:Int), .int .u64 gain, .int .u64 (256:Int)] fun n1 =>
 call Tryz.prog N_target_scaled [vu bw, .lf (.sl ⟨some ⟨n1, 0⟩, 2, 2⟩)] [qu] fun (r2 : Int) =>
 R r2
theorem call_target_Bdp (bw : Int) (rtt : Int) (gain : Int) (R : Rs.T [qu] → WP) (w : World) (h : W_target_Bdp bw rtt gain R w) : CW Tryz.prog N_target_Bdp [vu bw, vu rtt, vu gain] [qu] R w := cs Tryz.func302 (.s .o (.s .o .o)) h (by kernel_rfl)
def W_target_Rate (bw : Int) (gain : Int) (R : Rs.T [qu] → WP) : WP :=
 new [.int .u64 gain, .int .u64 (256:Int)] fun n1 =>
 call Tryz.prog N_target_scaled [vu bw, .lf (.sl ⟨some ⟨n1, 0⟩, 1, 1⟩)] [qu] fun (r2 : Int) =>
 R r2
theorem call_target_Rate (bw : Int) (gain : Int) (R : Rs.T [qu] → WP) (w : World) (h : W_target_Rate bw gain R w) : CW Tryz.prog N_target_Rate [vu bw, vu gain] [qu] R w := cs Tryz.func175 (.s .o (.s .o .o)) h (by kernel_rfl)
def W_target_Window (bw : Int) (rtt : Int) (gain : Int) (tso : Int) (mss : Int) (R : Rs.T [qu] → WP) : WP :=
 ite' (rtt == (0:Int)) (
 call Tryz.prog N_sat_Mul [.lf (.int .u64 (10:Int)), vu mss] [qu] fun (r1 : Int) =>
 R r1) <|
 call Tryz.prog N_target_Bdp [vu bw, vu rtt, vu gain] [qu] fun (r2 : Int) =>
 call Tryz.prog N_sat_Mul [.lf (.int .u64 (3:Int)), vu tso] [qu] fun (r3 : Int) =>
 call Tryz.prog N_sat_Add [vu r2, vu r3] [qu] fun (r4 : Int) =>
 call Tryz.prog N_sat_Mul [.lf (.int .u64 (4:Int)), vu mss] [qu] fun (r5 : Int) =>
 R (if r5 > r4 then r5 else r4)
theorem call_target_Window (bw : Int) (rtt : Int) (gain : Int) (tso : Int) (mss : Int) (R : Rs.T [qu] → WP) (w : World) (h : W_target_Window bw rtt gain tso mss R w) : CW Tryz.prog N_target_Window [vu bw, vu rtt, vu gain, vu tso, vu mss] [qu] R w := cs Tryz.func307 (.s .o (.s (.s .o (.s (.s .o .o) .o)) (.s .o .o))) h (by kernel_rfl)
def W_target_scaled (v : Int) (l : Sl) (R : Rs.T [qu] → WP) : WP :=
 loop [.int .u64, .int .i64] (v, (0:Int)) fun J1 (y2 : Int × Int) =>
 ite' (decide (y2.2 < ((l.len : Nat) : Int))) (
 idx l y2.2 2 fun q3 =>
 ld cr q3 fun (x4 : Int × Int) =>
 new [zu, zu] fun n5 =>
 st ⟨n5, 0⟩ (Ks.mk cr x4) <|
 ite' (y2.1 == (0:Int)) (
 R y2.1) <|
 req (0 ≤ (0:Int) ∧ (0:Int) < 2) <|
 ld cu ⟨n5, 0 + (0:Int).toNat * 1⟩ fun (x6 : Int) =>
 req (0 ≤ (1:Int) ∧ (1:Int) < 2) <|
 ld cu ⟨n5, 0 + (1:Int).toNat * 1⟩ fun (x7 : Int) =>
 call Tryz.prog N_wide_MulDiv [vu y2.1, vu x6, vu x7] [qu] fun (r8 : Int) =>
 J1 (r8, (IntKind.i64.wrap (y2.2 + (1:Int))))) <|
 R y2.1
theorem call_target_scaled (v : Int) (l : Sl) (R : Rs.T [qu] → WP) (w : World) (h : W_target_scaled v l R w) : CW Tryz.prog N_target_scaled [vu v, .lf (.sl l)] [qu] R w := cs Tryz.func229 (.s .o (.s .o (.s (.s .o (.b (.l [(0, qu), (9, qi)] (.s .o (.s (.s .o .o) (.s (.b (.s .o (.s (.s .o (.s .o .o)) .o))) .o)))))) (.s .o .o)))) h (by kernel_rfl)
def W_tso_Size (rate : Int) (mss : Int) (R : Rs.T [qi] → WP) : WP :=
 req ((IntKind.u64.wrap (if (9000:Int) < (if (100:Int) > mss then (100:Int) else mss) then (9000:Int) else (if (100:Int) > mss then (100:Int) else mss))) ≠ 0) <|
 loop cu (IntKind.u64.wrap ((IntKind.u64.wrap (rate.tdiv (1024:Int))).tdiv (IntKind.u64.wrap (if (9000:Int) < (if (100:Int) > mss then (100:Int) else mss) then (9000:Int) else (if (100:Int) > mss then (100:Int) else mss))))) fun J1 (y2 : Int) =>
 ite' (decide (y2 < (2:Int))) (
 J1 (2:Int)) <|
 req ((IntKind.u64.wrap (if (9000:Int) < (if (100:Int) > mss then (100:Int) else mss) then (9000:Int) else (if (100:Int) > mss then (100:Int) else mss))) ≠ 0) <|
 ite' (decide (y2 > (IntKind.u64.wrap ((65536:Int).tdiv (IntKind.u64.wrap (if (9000:Int) < (if (100:Int) > mss then (100:Int) else mss) then (9000:Int) else (if (100:Int) > mss then (100:Int) else mss))))))) (
 req ((IntKind.u64.wrap (if (9000:Int) < (if (100:Int) > mss then (100:Int) else mss) then (9000:Int) else (if (100:Int) > mss then (100:Int) else mss))) ≠ 0) <|
 J1 (IntKind.u64.wrap ((65536:Int).tdiv (IntKind.u64.wrap (if (9000:Int) < (if (100:Int) > mss then (100:Int) else mss) then (9000:Int) else (if (100:Int) > mss then (100:Int) else mss)))))) <|
 R (IntKind.i64.wrap (IntKind.u64.wrap (y2 * (IntKind.u64.wrap (if (9000:Int) < (if (100:Int) > mss then (100:Int) else mss) then (9000:Int) else (if (100:Int) > mss then (100:Int) else mss))))))
theorem call_tso_Size (rate : Int) (mss : Int) (R : Rs.T [qi] → WP) (w : World) (h : W_tso_Size rate mss R w) : CW Tryz.prog N_tso_Size [vu rate, vi mss] [qi] R w := cs Tryz.func83 (.s .o (.s .o (.s .o (.s .o (.s (.b (.l [(6, qu)] (.b (.b (.s .o (.s .o (.s .o (.s .o .o)))))))) (.s .o .o)))))) h (by kernel_rfl)
def W_tsq_Limit (rate : Int) (tso : Int) (most : Int) (R : Rs.T [qu] → WP) : WP :=
 loop [.int .u64, .int .i64] ((0:Int), (0:Int)) fun J1 (y2 : Int × Int) =>
 ite' (decide (y2.2 < (2:Int))) (
 ixa [.int .u64] [.int .u64 (IntKind.u64.wrap ((2:Int) * (IntKind.u64.wrap (if (0:Int) > tso then (0:Int) else tso)))), .int .u64 (if (IntKind.u64.wrap (if (0:Int) > most then (0:Int) else most)) < (IntKind.u64.wrap (rate.tdiv (1024:Int))) then (IntKind.u64.wrap (if (0:Int) > most then (0:Int) else most)) else (IntKind.u64.wrap (rate.tdiv (1024:Int))))] y2.2 2 1 fun (x3 : Int) =>
 ite' (decide (x3 ≤ y2.1)) (
 J1 (y2.1, (IntKind.i64.wrap (y2.2 + (1:Int))))) <|
 J1 (x3, (IntKind.i64.wrap (y2.2 + (1:Int))))) <|
 R y2.1
theorem call_tsq_Limit (rate : Int) (tso : Int) (most : Int) (R : Rs.T [qu] → WP) (w : World) (h : W_tsq_Limit rate tso most R w) : CW Tryz.prog N_tsq_Limit [vu rate, vi tso, vi most] [qu] R w := cs Tryz.func240 (.s .o (.s .o (.s .o (.s (.s .o (.b (.l [(7, qu), (21, qi)] (.s .o (.s (.s .o .o) (.s (.b (.s .o (.s (.s .o (.s .o .o)) .o))) .o)))))) (.s .o .o))))) h (by kernel_rfl)
def W_tsq_May (out : Int) (limit : Int) (R : Rs.T [qb] → WP) : WP :=
 R (decide (out < limit))
theorem call_tsq_May (out : Int) (limit : Int) (R : Rs.T [qb] → WP) (w : World) (h : W_tsq_May out limit R w) : CW Tryz.prog N_tsq_May [vu out, vu limit] [qb] R w := cs Tryz.func239 (.s .o (.s .o .o)) h (by kernel_rfl)
def W_wide_Div (hi : Int) (lo : Int) (c : Int) (R : Rs.T [qu, qi] → WP) : WP :=
 ite' (c == (0:Int)) (
 R ((0:Int), (1:Int))) <|
 ite' (decide (hi ≥ c)) (
 R ((0:Int), (3:Int))) <|
 loop K_u3i (hi, lo, (0:Int), (0:Int)) fun J1 (y2 : T_u3i) =>
 ite' (y2.2.2.2 == (64:Int)) (
 R (y2.2.2.1, (0:Int))) <|
 req (0 ≤ (63:Int)) <|
 req (0 ≤ (1:Int)) <|
 req (0 ≤ (63:Int)) <|
 req (0 ≤ (1:Int)) <|
 req (0 ≤ (1:Int)) <|
 ite' (((y2.1.fdiv (2 ^ min (63:Int).toNat IntKind.u64.bits)) == (0:Int)) && (decide ((IntKind.u64.wrap (BitVec.ofInt IntKind.u64.bits (IntKind.u64.wrap (y2.1 * 2 ^ min (1:Int).toNat IntKind.u64.bits)) ||| BitVec.ofInt IntKind.u64.bits (y2.2.1.fdiv (2 ^ min (63:Int).toNat IntKind.u64.bits))).toNat) < c))) (
 J1 ((IntKind.u64.wrap (BitVec.ofInt IntKind.u64.bits (IntKind.u64.wrap (y2.1 * 2 ^ min (1:Int).toNat IntKind.u64.bits)) ||| BitVec.ofInt IntKind.u64.bits (y2.2.1.fdiv (2 ^ min (63:Int).toNat IntKind.u64.bits))).toNat), (IntKind.u64.wrap (y2.2.1 * 2 ^ min (1:Int).toNat IntKind.u64.bits)), (IntKind.u64.wrap (y2.2.2.1 * 2 ^ min (1:Int).toNat IntKind.u64.bits)), (IntKind.i64.wrap (y2.2.2.2 + (1:Int))))) <|
 J1 ((IntKind.u64.wrap ((IntKind.u64.wrap (BitVec.ofInt IntKind.u64.bits (IntKind.u64.wrap (y2.1 * 2 ^ min (1:Int).toNat IntKind.u64.bits)) ||| BitVec.ofInt IntKind.u64.bits (y2.2.1.fdiv (2 ^ min (63:Int).toNat IntKind.u64.bits))).toNat) - c)), (IntKind.u64.wrap (y2.2.1 * 2 ^ min (1:Int).toNat IntKind.u64.bits)), (IntKind.u64.wrap (BitVec.ofInt IntKind.u64.bits (IntKind.u64.wrap (y2.2.2.1 * 2 ^ min (1:Int).toNat IntKind.u64.bits)) ||| BitVec.ofInt IntKind.u64.bits (1:Int)).toNat), (IntKind.i64.wrap (y2.2.2.2 + (1:Int))))
theorem call_wide_Div (hi : Int) (lo : Int) (c : Int) (R : Rs.T [qu, qi] → WP) (w : World) (h : W_wide_Div hi lo c R w) : CW Tryz.prog N_wide_Div [vu hi, vu lo, vu c] [qu, qi] R w := cs Tryz.func274 (.s .o (.s (.b (.s .o (.s (.s .o .o) (.s .o (.s (.s .o .o) .o))))) (.s .o (.s .o (.s .o (.s (.b (.l [(0, qu), (1, qu), (8, qu), (9, qi)] (.b (.s (.s .o (.s .o .o)) (.s .o (.s .o (.s .o (.s (.s .o (.s .o .o)) .o)))))))) (.s .o .o))))))) h (by kernel_rfl)
def W_wide_Mul (a : Int) (b : Int) (R : Rs.T [qu, qu] → WP) : WP :=
 call Tryz.prog N_math_bits_Mul64 [vu a, vu b] [qu, qu] fun (r1 : Int × Int) =>
 R (r1.1, r1.2)
theorem call_wide_Mul (a : Int) (b : Int) (R : Rs.T [qu, qu] → WP) (w : World) (h : W_wide_Mul a b R w) : CW Tryz.prog N_wide_Mul [vu a, vu b] [qu, qu] R w := cs Tryz.func273 (.s .o (.s .o .o)) h (by kernel_rfl)
def W_wide_MulDiv (a : Int) (b : Int) (c : Int) (R : Rs.T [qu] → WP) : WP :=
 call Tryz.prog N_wide_Mul [vu a, vu b] [qu, qu] fun (r1 : Int × Int) =>
 ite' ((r1.1 == (0:Int)) && (r1.2 == (0:Int))) (
 R (0:Int)) <|
 call Tryz.prog N_wide_Div [vu r1.1, vu r1.2, vu c] [qu, qi] fun (r2 : Int × Int) =>
 ite' (r2.2 != (0:Int)) (
 R (18446744073709551615:Int)) <|
 R r2.1
theorem call_wide_MulDiv (a : Int) (b : Int) (c : Int) (R : Rs.T [qu] → WP) (w : World) (h : W_wide_MulDiv a b c R w) : CW Tryz.prog N_wide_MulDiv [vu a, vu b, vu c] [qu] R w := cs Tryz.func228 (.s .o (.s .o (.s (.s .o (.s (.s .o .o) .o)) (.s .o (.s (.s .o (.s (.s .o .o) .o)) (.s .o .o)))))) h (by kernel_rfl)
def W_winmax_Max_Best (m : Option Pt) (R : Rs.T [qu] → WP) : WP :=
 ite' m.isNone (
 R (0:Int)) <|
 deref m fun q1 =>
 req (0 ≤ (0:Int) ∧ (0:Int) < 3) <|
 ld cu ⟨q1.b, q1.o + 1 + (0:Int).toNat * 2 + 1⟩ fun (x2 : Int) =>
 R x2
theorem call_winmax_Max_Best (m : Option Pt) (R : Rs.T [qu] → WP) (w : World) (h : W_winmax_Max_Best m R w) : CW Tryz.prog N_winmax_Max_Best [vp m] [qu] R w := cs Tryz.func192 (.s .o (.s (.s .o (.s (.s .o .o) .o)) (.s .o .o))) h (by kernel_rfl)
def W_winmax_Max_Reset (m : Option Pt) (t : Int) (v : Int) (R : Rs.T [] → WP) : WP :=
 ite' m.isNone (
 R ()) <|
 deref m fun q1 =>
 lo cu q1 7 fun (x2 : Int) =>
 deref m fun q3 =>
 so q3 7 [.int .u64 (if t > x2 then t else x2)] <|
 call Tryz.prog N_winmax_Max_all [vp m, .lf (zi), .agg [.int .u64 t, .int .u64 v]] [] fun (r4 : Unit) =>
 R ()
theorem call_winmax_Max_Reset (m : Option Pt) (t : Int) (v : Int) (R : Rs.T [] → WP) (w : World) (h : W_winmax_Max_Reset m t v R w) : CW Tryz.prog N_winmax_Max_Reset [vp m, vu t, vu v] [] R w := cs Tryz.func312 (.s (.s .o (.s .o .o)) (.s .o .o)) h (by kernel_rfl)
def W_winmax_Max_Update (d : Option Pt) (o : Int) (a : Int) (R : Rs.T [qu] → WP) : WP :=
 ite' d.isNone (
 R (0:Int)) <|
 deref d fun q1 =>
 lo cu q1 7 fun (x2 : Int) =>
 deref d fun q3 =>
 so q3 7 [.int .u64 (if o > x2 then o else x2)] <|
 deref d fun q4 =>
 lo cu q4 7 fun (x5 : Int) =>
 new [zu, zu] fun n6 =>
 st ⟨n6, 0⟩ [.int .u64 x5, .int .u64 a] <|
 join cb (fun J7 =>
 drw <|
 deref d fun q9 =>
 req (0 ≤ (0:Int) ∧ (0:Int) < 3) <|
 ld cu ⟨q9.b, q9.o + 1 + (0:Int).toNat * 2 + 1⟩ fun (x10 : Int) =>
 ite' (decide (a ≥ x10)) (
 J7 true) <|
 ld cu ⟨n6, 0⟩ fun (x11 : Int) =>
 deref d fun q12 =>
 deref d fun q13 =>
 req (0 ≤ (2:Int) ∧ (2:Int) < 3) <|
 ld cu q13 fun (x14 : Int) =>
 ld cr ⟨q12.b, q12.o + 1 + (2:Int).toNat * 2⟩ fun (x15 : Int × Int) =>
 call Tryz.prog N_winmax_near [vu x11, .agg (Ks.mk cr x15), vu x14] [qb] fun (r16 : Bool) =>
 J7 (!r16)) fun (y8 : Bool) =>
 ite' y8 (
 ld cu ⟨n6, 0⟩ fun (x17 : Int) =>
 call Tryz.prog N_winmax_Max_Reset [vp d, vu x17, vu a] [] fun (r18 : Unit) =>
 R a) <|
 join [] (fun J19 =>
 loop ci (0:Int) fun J21 (y22 : Int) =>
 ite' (decide (y22 < (3:Int))) (
 join cb (fun J23 =>
 ite' (decide (y22 > (0:Int))) (
 deref d fun q25 =>
 req (0 ≤ y22 ∧ y22 < 3) <|
 ld cu ⟨q25.b, q25.o + 1 + y22.toNat * 2 + 1⟩ fun (x26 : Int) =>
 J23 (decide (a ≥ x26))) <|
 J23 false) fun (y24 : Bool) =>
 ite' y24 (
 ld cr ⟨n6, 0⟩ fun (x27 : Int × Int) =>
 call Tryz.prog N_winmax_Max_all [vp d, vi y22, .agg (Ks.mk cr x27)] [] fun (r28 : Unit) =>
 J19 ()) <|
 J21 (IntKind.i64.wrap (y22 + (1:Int)))) <|
 J19 ()) fun (y20 : Unit) =>
 join [] (fun J29 =>
 drw <|
 ld cu ⟨n6, 0⟩ fun (x31 : Int) =>
 deref d fun q32 =>
 deref d fun q33 =>
 req (0 ≤ (0:Int) ∧ (0:Int) < 3) <|
 ld cu q33 fun (x34 : Int) =>
 ld cr ⟨q32.b, q32.o + 1 + (0:Int).toNat * 2⟩ fun (x35 : Int × Int) =>
 call Tryz.prog N_winmax_near [vu x31, .agg (Ks.mk cr x35), vu x34] [qb] fun (r36 : Bool) =>
 ite' (!r36) (
 ld cr ⟨n6, 0⟩ fun (x37 : Int × Int) =>
 call Tryz.prog N_winmax_Max_push [vp d, .agg (Ks.mk cr x37)] [] fun (r38 : Unit) =>
 drw <|
 ld cu ⟨n6, 0⟩ fun (x39 : Int) =>
 deref d fun q40 =>
 deref d fun q41 =>
 req (0 ≤ (0:Int) ∧ (0:Int) < 3) <|
 ld cu q41 fun (x42 : Int) =>
 ld cr ⟨q40.b, q40.o + 1 + (0:Int).toNat * 2⟩ fun (x43 : Int × Int) =>
 call Tryz.prog N_winmax_near [vu x39, .agg (Ks.mk cr x43), vu x42] [qb] fun (r44 : Bool) =>
 ite' (!r44) (
 ld cr ⟨n6, 0⟩ fun (x45 : Int × Int) =>
 call Tryz.prog N_winmax_Max_push [vp d, .agg (Ks.mk cr x45)] [] fun (r46 : Unit) =>
 J29 ()) <|
 J29 ()) <|
 join cb (fun J47 =>
 drw <|
 deref d fun q49 =>
 deref d fun q50 =>
 req (0 ≤ (1:Int) ∧ (1:Int) < 3) <|
 req (0 ≤ (0:Int) ∧ (0:Int) < 3) <|
 ld cu ⟨q49.b, q49.o + 1 + (1:Int).toNat * 2⟩ fun (x51 : Int) =>
 ld cu ⟨q50.b, q50.o + 1 + (0:Int).toNat * 2⟩ fun (x52 : Int) =>
 ite' (x51 == x52) (
 ld cu ⟨n6, 0⟩ fun (x53 : Int) =>
 deref d fun q54 =>
 deref d fun q55 =>
 req (0 ≤ (0:Int) ∧ (0:Int) < 3) <|
 ld cu q55 fun (x56 : Int) =>
 ld cr ⟨q54.b, q54.o + 1 + (0:Int).toNat * 2⟩ fun (x57 : Int × Int) =>
 call Tryz.prog N_winmax_near [vu x53, .agg (Ks.mk cr x57), .lf (.int .u64 (IntKind.u64.wrap (x56.tdiv (4:Int))))] [qb] fun (r58 : Bool) =>
 J47 (!r58)) <|
 J47 false) fun (y48 : Bool) =>
 ite' y48 (
 ld cr ⟨n6, 0⟩ fun (x59 : Int × Int) =>
 call Tryz.prog N_winmax_Max_all [vp d, .lf (.int .i64 (1:Int)), .agg (Ks.mk cr x59)] [] fun (r60 : Unit) =>
 J29 ()) <|
 join cb (fun J61 =>
 drw <|
 deref d fun q63 =>
 deref d fun q64 =>
 req (0 ≤ (2:Int) ∧ (2:Int) < 3) <|
 req (0 ≤ (1:Int) ∧ (1:Int) < 3) <|
 ld cu ⟨q63.b, q63.o + 1 + (2:Int).toNat * 2⟩ fun (x65 : Int) =>
 ld cu ⟨q64.b, q64.o + 1 + (1:Int).toNat * 2⟩ fun (x66 : Int) =>
 ite' (x65 == x66) (
 ld cu ⟨n6, 0⟩ fun (x67 : Int) =>
 deref d fun q68 =>
 deref d fun q69 =>
 req (0 ≤ (0:Int) ∧ (0:Int) < 3) <|
 ld cu q69 fun (x70 : Int) =>
 ld cr ⟨q68.b, q68.o + 1 + (0:Int).toNat * 2⟩ fun (x71 : Int × Int) =>
 call Tryz.prog N_winmax_near [vu x67, .agg (Ks.mk cr x71), .lf (.int .u64 (IntKind.u64.wrap (x70.tdiv (2:Int))))] [qb] fun (r72 : Bool) =>
 J61 (!r72)) <|
 J61 false) fun (y62 : Bool) =>
 ite' y62 (
 ld cr ⟨n6, 0⟩ fun (x73 : Int × Int) =>
 call Tryz.prog N_winmax_Max_all [vp d, .lf (.int .i64 (2:Int)), .agg (Ks.mk cr x73)] [] fun (r74 : Unit) =>
 J29 ()) <|
 J29 ()) fun (y30 : Unit) =>
 deref d fun q75 =>
 req (0 ≤ (0:Int) ∧ (0:Int) < 3) <|
 ld cu ⟨q75.b, q75.o + 1 + (0:Int).toNat * 2 + 1⟩ fun (x76 : Int) =>
 R x76
theorem call_winmax_Max_Update (d : Option Pt) (o : Int) (a : Int) (R : Rs.T [qu] → WP) (w : World) (h : W_winmax_Max_Update d o a R w) : CW Tryz.prog N_winmax_Max_Update [vp d, vu o, vu a] [qu] R w := cs Tryz.func299 (.s .o (.s (.s .o (.s (.s .o .o) .o)) (.s .o (.s .o (.s (.j [(48, qb)] (.d (.f 0 [2] (.f 1 [0] (.f 2 [27] (.f 3 [28] (.f 4 [29] (.f 5 [30] (.f 6 [31] (.f 7 [26, 32] (.f 8 [33] (.f 9 [7, 34] (.f 11 [0, 34] (.f 16 [0, 34] (.f 10 [34, 35] (.f 12 [34, 37] (.f 17 [34, 42] (.f 13 [34, 38] (.f 18 [34, 43] (.f 14 [34, 39] (.f 19 [34, 44] (.f 15 [34, 40] (.w 20 [34, 36, 41, 45] (.f 21 [34, 46] (.f 22 [34, 47] .fin)))))))))))))))))))))))) (.s (.s .o (.s .o .o)) .o)) (.s .o (.j [] (.s .o (.b (.l [(55, qi)] (.s .o (.s (.s .o .o) (.s (.b (.s .o (.j [(70, qb)] .o (.s (.s .o .o) .o)))) .o)))))) (.j [] (.b (.s (.d (.f 0 [7] (.f 2 [0] (.f 7 [0] (.f 1 [77] (.f 3 [79] (.f 8 [84] (.f 4 [80] (.f 9 [85] (.f 5 [81] (.f 10 [86] (.f 6 [82] (.w 11 [78, 83, 87] (.f 12 [88] (.w 13 [89] .fin))))))))))))))) (.s (.s .o (.s (.d (.f 0 [7] (.f 2 [0] (.f 7 [0] (.f 1 [93] (.f 3 [95] (.f 8 [100] (.f 4 [96] (.f 9 [101] (.f 5 [97] (.f 10 [102] (.f 6 [98] (.w 11 [94, 99, 103] (.f 12 [104] .fin)))))))))))))) (.s .o .o))) (.j [(109, qb)] (.d (.f 0 [0] (.f 6 [0] (.f 1 [110] (.f 7 [116] (.f 2 [111] (.f 8 [117] (.f 3 [112] (.f 9 [118] (.f 4 [113] (.f 10 [119] (.f 5 [114] (.f 11 [120] (.f 12 [115, 121] (.f 13 [122] (.f 14 [7, 123] (.f 16 [0, 123] (.f 21 [0, 123] (.f 15 [123, 124] (.f 17 [123, 126] (.f 22 [123, 131] (.f 18 [123, 127] (.f 23 [123, 132] (.f 19 [123, 128] (.f 24 [123, 133] (.f 20 [123, 129] (.f 25 [123, 134] (.w 26 [123, 125, 130, 135] (.f 27 [123, 136] (.f 28 [123, 137] (.w 29 [138] .fin))))))))))))))))))))))))))))))) (.s .o (.j [(142, qb)] (.d (.f 0 [0] (.f 6 [0] (.f 1 [143] (.f 7 [149] (.f 2 [144] (.f 8 [150] (.f 3 [145] (.f 9 [151] (.f 4 [146] (.f 10 [152] (.f 5 [147] (.f 11 [153] (.f 12 [148, 154] (.f 13 [155] (.f 14 [7, 156] (.f 16 [0, 156] (.f 21 [0, 156] (.f 15 [156, 157] (.f 17 [156, 159] (.f 22 [156, 164] (.f 18 [156, 160] (.f 23 [156, 165] (.f 19 [156, 161] (.f 24 [156, 166] (.f 20 [156, 162] (.f 25 [156, 167] (.w 26 [156, 158, 163, 168] (.f 27 [156, 169] (.f 28 [156, 170] (.w 29 [171] .fin))))))))))))))))))))))))))))))) (.s .o .o))))))) (.s .o .o))))))))) h (by kernel_rfl)
def W_winmax_Max_all (m : Option Pt) (from' : Int) (s : Int × Int) (R : Rs.T [] → WP) : WP :=
 new (Ks.mk cr s) fun n1 =>
 deref m fun q2 =>
 slc ⟨some ⟨q2.b, q2.o + 1⟩, 3, 3⟩ (some from') none none 2 fun s3 =>
 loop ci (0:Int) fun J4 (y5 : Int) =>
 ite' (decide (y5 < ((s3.len : Nat) : Int))) (
 drw <|
 ld cr ⟨n1, 0⟩ fun (x6 : Int × Int) =>
 deref m fun q7 =>
 req (0 ≤ (IntKind.i64.wrap (from' + y5)) ∧ (IntKind.i64.wrap (from' + y5)) < 3) <|
 st ⟨q7.b, q7.o + 1 + (IntKind.i64.wrap (from' + y5)).toNat * 2⟩ (Ks.mk cr x6) <|
 J4 (IntKind.i64.wrap (y5 + (1:Int)))) <|
 R ()
theorem call_winmax_Max_all (m : Option Pt) (from' : Int) (s : Int × Int) (R : Rs.T [] → WP) (w : World) (h : W_winmax_Max_all m from' s R w) : CW Tryz.prog N_winmax_Max_all [vp m, .lf (.int .i64 from'), .agg (Ks.mk cr s)] [] R w := cs Tryz.func313 (.s .o (.s .o (.b (.l [(13, qi)] (.s .o (.s (.s .o .o) (.s (.b (.s .o (.d (.f 0 [0] (.f 1 [1] (.f 2 [6] (.f 4 [5] (.f 3 [17, 18] (.f 5 [16] (.f 6 [21] (.f 7 [19, 22] (.w 8 [20, 23] .fin)))))))))))) .o))))))) h (by kernel_rfl)
def W_winmax_Max_push (m : Option Pt) (s : Int × Int) (R : Rs.T [] → WP) : WP :=
 new (Ks.mk cr s) fun n1 =>
 drw <|
 ld cr ⟨n1, 0⟩ fun (x2 : Int × Int) =>
 deref m fun q3 =>
 deref m fun q4 =>
 deref m fun q5 =>
 deref m fun q6 =>
 deref m fun q7 =>
 req (0 ≤ (1:Int) ∧ (1:Int) < 3) <|
 req (0 ≤ (2:Int) ∧ (2:Int) < 3) <|
 ld cr ⟨q3.b, q3.o + 1 + (1:Int).toNat * 2⟩ fun (x8 : Int × Int) =>
 ld cr ⟨q4.b, q4.o + 1 + (2:Int).toNat * 2⟩ fun (x9 : Int × Int) =>
 req (0 ≤ (0:Int) ∧ (0:Int) < 3) <|
 st ⟨q5.b, q5.o + 1 + (0:Int).toNat * 2⟩ (Ks.mk cr x8) <|
 chk ⟨n1, 0⟩ (Ks.mk cr x2) <|
 req (0 ≤ (1:Int) ∧ (1:Int) < 3) <|
 st ⟨q6.b, q6.o + 1 + (1:Int).toNat * 2⟩ (Ks.mk cr x9) <|
 chk ⟨n1, 0⟩ (Ks.mk cr x2) <|
 req (0 ≤ (2:Int) ∧ (2:Int) < 3) <|
 st ⟨q7.b, q7.o + 1 + (2:Int).toNat * 2⟩ (Ks.mk cr x2) <|
 R ()
theorem call_winmax_Max_push (m : Option Pt) (s : Int × Int) (R : Rs.T [] → WP) (w : World) (h : W_winmax_Max_push m s R w) : CW Tryz.prog N_winmax_Max_push [vp m, .agg (Ks.mk cr s)] [] R w := cs Tryz.func314 (.s .o (.d (.f 0 [0] (.f 1 [0] (.f 2 [0] (.f 3 [0] (.f 8 [0] (.f 13 [3] (.f 4 [7] (.f 9 [12] (.f 14 [4] (.f 18 [5] (.f 22 [6] (.f 5 [8] (.f 10 [13] (.f 15 [18] (.f 19 [21] (.f 23 [24] (.f 6 [9] (.f 11 [14] (.f 7 [10] (.f 12 [15] (.f 16 [19] (.w 17 [11, 20] (.f 20 [22] (.w 21 [16, 23] (.f 24 [25] (.w 25 [17, 26] .fin)))))))))))))))))))))))))))) h (by kernel_rfl)
def W_winmax_New (window : Int) (R : Rs.T [qp] → WP) : WP :=
 new [.int .u64 window, zu, zu, zu, zu, zu, zu, zu] fun n1 =>
 R (some ⟨n1, 0⟩)
theorem call_winmax_New (window : Int) (R : Rs.T [qp] → WP) (w : World) (h : W_winmax_New window R w) : CW Tryz.prog N_winmax_New [vu window] [qp] R w := cs Tryz.func169 (.s .o (.s .o (.s .o .o))) h (by kernel_rfl)
def W_winmax_near (t : Int) (s : Int × Int) (window : Int) (R : Rs.T [qb] → WP) : WP :=
 new (Ks.mk cr s) fun n1 =>
 ld cu ⟨n1, 0⟩ fun (x2 : Int) =>
 R (decide ((IntKind.u64.wrap (t - (if x2 < t then x2 else t))) ≤ window))
theorem call_winmax_near (t : Int) (s : Int × Int) (window : Int) (R : Rs.T [qb] → WP) (w : World) (h : W_winmax_near t s window R w) : CW Tryz.prog N_winmax_near [vu t, .agg (Ks.mk cr s), vu window] [qb] R w := cs Tryz.func311 (.s .o (.s .o .o)) h (by kernel_rfl)
end Go.X
