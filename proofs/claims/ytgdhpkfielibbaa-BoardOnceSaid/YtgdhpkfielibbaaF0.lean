/- What each function of the program computes, as a weakest precondition, printed by program; the kernel sees that the code says so. -/
import Derived.Test.YtgdhpkfielibbaaK
import Derived.Test.YtgdhpkfielibbaaProg
set_option linter.unusedVariables false
namespace Go.X
open Go.Proofs
/-- (*canter/board.Board).Ack -/
def W_board_Board_Ack (d : Option Pt) (o : Int) (a : Sl) (R : Rs.T [.lf .sl, .lf (.int .u64), .lf (.int .i64)] → WP) : WP :=
  ite' d.isNone (
  R (⟨none, 0, 0⟩, (0:Int), (2:Int))) <|
  call Try.prog N_board_Board_may [.lf (.ptr d), .lf (.int .u64 o), .lf (.sl a)] [.lf .bool] fun (r1 : Bool) =>
  ite' (!r1) (
  R (⟨none, 0, 0⟩, (0:Int), (11:Int))) <|
  deref d fun q2 =>
  ld [.sl] q2 fun (x3 : Sl) =>
  loop K_s2i (⟨none, 0, 0⟩, ⟨none, 0, 0⟩, (0:Int)) fun J4 (y5 : T_s2i) =>
  ite' (decide (y5.2.2 < ((x3.len : Nat) : Int))) (
  idx x3 y5.2.2 9 fun q6 =>
  ld K_u6b3 q6 fun (x7 : T_u6b3) =>
  new [.int .u64 (0:Int), .int .u64 (0:Int), .int .u64 (0:Int), .int .u64 (0:Int), .int .u64 (0:Int), .int .u64 (0:Int), .bool false, .bool false, .bool false] fun n8 =>
  st ⟨n8, 0⟩ (Ks.mk K_u6b3 x7) <|
  ld [.int .u64] ⟨n8, 1⟩ fun (x9 : Int) =>
  join [.sl] (fun J10 =>
  join [.bool] (fun J12 =>
  ld [.bool] ⟨n8, 7⟩ fun (x14 : Bool) =>
  ite' (!x14) (
  ite' (decide (x9 ≤ o)) (
  J12 true) <|
  ld K_u6b3 ⟨n8, 0⟩ fun (x15 : T_u6b3) =>
  call Try.prog N_board_holds [.lf (.sl a), .agg (Ks.mk K_u6b3 x15)] [.lf .bool] fun (r16 : Bool) =>
  J12 r16) <|
  J12 false) fun (y13 : Bool) =>
  ite' y13 (
  ld K_u6b3 ⟨n8, 0⟩ fun (x17 : T_u6b3) =>
  new [.int .u64 x17.1, .int .u64 x17.2.1, .int .u64 x17.2.2.1, .int .u64 x17.2.2.2.1, .int .u64 x17.2.2.2.2.1, .int .u64 x17.2.2.2.2.2.1, .bool x17.2.2.2.2.2.2.1, .bool x17.2.2.2.2.2.2.2.1, .bool x17.2.2.2.2.2.2.2.2] fun n18 =>
  app 9 y5.1 ⟨some ⟨n18, 0⟩, 1, 1⟩ fun s19 =>
  st ⟨n8, 7⟩ [.bool true] <|
  st ⟨n8, 8⟩ [.bool false] <|
  J10 s19) <|
  J10 y5.1) fun (y11 : Sl) =>
  ite' (decide (x9 ≤ o)) (
  J4 (y11, y5.2.1, (IntKind.i64.wrap (y5.2.2 + (1:Int))))) <|
  ld K_u6b3 ⟨n8, 0⟩ fun (x20 : T_u6b3) =>
  new [.int .u64 x20.1, .int .u64 x20.2.1, .int .u64 x20.2.2.1, .int .u64 x20.2.2.2.1, .int .u64 x20.2.2.2.2.1, .int .u64 x20.2.2.2.2.2.1, .bool x20.2.2.2.2.2.2.1, .bool x20.2.2.2.2.2.2.2.1, .bool x20.2.2.2.2.2.2.2.2] fun n21 =>
  app 9 y5.2.1 ⟨some ⟨n21, 0⟩, 1, 1⟩ fun s22 =>
  J4 (y11, s22, (IntKind.i64.wrap (y5.2.2 + (1:Int))))) <|
  deref d fun q23 =>
  st q23 [.sl y5.2.1] <|
  call Try.prog N_board_Board_passed [.lf (.ptr d)] [.lf (.int .u64)] fun (r24 : Int) =>
  R (y5.1, r24, (0:Int))
theorem sem_board_Board_Ack (d : Option Pt) (o : Int) (a : Sl) (R : Rs.T [.lf .sl, .lf (.int .u64), .lf (.int .i64)] → WP) : Same (semF Try.prog Try.f20 (.s .o (.s (.b (.s .o (.s (.s .o .o) (.s .o (.s (.s .o .o) .o))))) (.s .o (.s .o (.s (.s .o (.b (.l [(9, .lf .sl), (10, .lf .sl), (28, .lf (.int .i64))] (.s .o (.s (.s .o .o) (.s (.b (.s .o (.s .o (.j [(9, .lf .sl)] (.j [(46, .lf .bool)] .o (.s (.s .o .o) .o)) (.s (.s .o (.s .o .o)) .o))))) .o)))))) (.s .o (.s .o .o))))))) [.lf (.ptr d), .lf (.int .u64 o), .lf (.sl a)] [.lf .sl, .lf (.int .u64), .lf (.int .i64)] R) (fun w => W_board_Board_Ack d o a R w) := ⟨by kernel_rfl⟩
theorem call_board_Board_Ack (d : Option Pt) (o : Int) (a : Sl) (R : Rs.T [.lf .sl, .lf (.int .u64), .lf (.int .i64)] → WP) (w : World) (h : W_board_Board_Ack d o a R w) :
    CallX Try.prog N_board_Board_Ack ([.lf (.ptr d), .lf (.int .u64 o), .lf (.sl a)].map V1.enc) w fun v w' => ∃ x, v = (retTV (Rs.mk [.lf .sl, .lf (.int .u64), .lf (.int .i64)] x)).enc ∧ R x w' :=
  callX_of_semF Try.func20 (by kernel_rfl) (by kernel_rfl) (sem_board_Board_Ack d o a R) h


/-- (*canter/board.Board).Again -/
def W_board_Board_Again (b : Option Pt) (s : T_u4b) (R : Rs.T [.agg [.int .u64, .int .u64], .lf .bool] → WP) : WP :=
  new (Ks.mk K_u4b s) fun n1 =>
  new [.int .u64 (0:Int), .int .u64 (0:Int)] fun n2 =>
  call Try.prog N_board_Board_Lost [.lf (.ptr b)] [.agg [.int .u64, .int .u64], .lf .bool] fun (r3 : (Int × Int) × Bool) =>
  new [.int .u64 (0:Int), .int .u64 (0:Int)] fun n4 =>
  st ⟨n4, 0⟩ (Ks.mk [.int .u64, .int .u64] r3.1) <|
  join [] (fun J5 =>
  ite' r3.2 (
  drw <|
  deref b fun q7 =>
  ld [.sl] q7 fun (x8 : Sl) =>
  call Try.prog N_board_Board_lost [.lf (.ptr b)] [.lf (.int .i64)] fun (r9 : Int) =>
  chk q7 (Ks.mk [.sl] x8) <|
  idx x8 r9 9 fun q10 =>
  drw <|
  ld K_u4b ⟨n1, 0⟩ fun (x11 : T_u4b) =>
  deref (some q10) fun q12 =>
  st ⟨q12.b, q12.o + 8⟩ [.bool false] <|
  chk ⟨n1, 0⟩ (Ks.mk K_u4b x11) <|
  deref (some q10) fun q13 =>
  st ⟨q13.b, q13.o + 2⟩ (Ks.mk K_u4b x11) <|
  J5 ()) <|
  J5 ()) fun (y6 : Unit) =>
  ld [.int .u64, .int .u64] ⟨n4, 0⟩ fun (x14 : Int × Int) =>
  st ⟨n2, 0⟩ (Ks.mk [.int .u64, .int .u64] x14) <|
  ld [.int .u64, .int .u64] ⟨n2, 0⟩ fun (x15 : Int × Int) =>
  R (x15, r3.2)
theorem sem_board_Board_Again (b : Option Pt) (s : T_u4b) (R : Rs.T [.agg [.int .u64, .int .u64], .lf .bool] → WP) : Same (semF Try.prog Try.f45 (.s .o (.s .o (.j [] (.s .o (.s (.s (.d (.f 0 [0] (.f 4 [0] (.f 1 [15] (.f 2 [16] (.f 3 [17] (.w 5 [19] (.f 6 [18, 20] (.w 7 [21] .fin))))))))) (.d (.f 0 [8] (.f 1 [8] (.f 2 [3] (.f 3 [22] (.f 4 [25] (.w 5 [26] (.f 6 [23] (.f 7 [27] (.w 8 [24, 28] .fin))))))))))) .o)) (.s .o .o)))) [.lf (.ptr b), .agg (Ks.mk K_u4b s)] [.agg [.int .u64, .int .u64], .lf .bool] R) (fun w => W_board_Board_Again b s R w) := ⟨by kernel_rfl⟩
theorem call_board_Board_Again (b : Option Pt) (s : T_u4b) (R : Rs.T [.agg [.int .u64, .int .u64], .lf .bool] → WP) (w : World) (h : W_board_Board_Again b s R w) :
    CallX Try.prog N_board_Board_Again ([.lf (.ptr b), .agg (Ks.mk K_u4b s)].map V1.enc) w fun v w' => ∃ x, v = (retTV (Rs.mk [.agg [.int .u64, .int .u64], .lf .bool] x)).enc ∧ R x w' :=
  callX_of_semF Try.func45 (by kernel_rfl) (by kernel_rfl) (sem_board_Board_Again b s R) h


/-- (*canter/board.Board).All -/
def W_board_Board_All (b : Option Pt) (R : Rs.T [.lf .fn] → WP) : WP :=
  new [.ptr b] fun n1 =>
  R (.mk (.func N_board_Board_All_c1) [] [V1.enc (.lf (.ptr (some ⟨n1, 0⟩)))])
theorem sem_board_Board_All (b : Option Pt) (R : Rs.T [.lf .fn] → WP) : Same (semF Try.prog Try.f19 (.s .o (.s .o .o)) [.lf (.ptr b)] [.lf .fn] R) (fun w => W_board_Board_All b R w) := ⟨by kernel_rfl⟩
theorem call_board_Board_All (b : Option Pt) (R : Rs.T [.lf .fn] → WP) (w : World) (h : W_board_Board_All b R w) :
    CallX Try.prog N_board_Board_All ([.lf (.ptr b)].map V1.enc) w fun v w' => ∃ x, v = (retTV (Rs.mk [.lf .fn] x)).enc ∧ R x w' :=
  callX_of_semF Try.func19 (by kernel_rfl) (by kernel_rfl) (sem_board_Board_All b R) h


/-- (*canter/board.Board).All$1 -/
def W_board_Board_All_c1 (yield : Fv) (c0 : Pt) (R : Rs.T [] → WP) : WP :=
  ld [.ptr] c0 fun (x1 : Option Pt) =>
  ite' x1.isNone (
  R ()) <|
  ld [.ptr] c0 fun (x2 : Option Pt) =>
  deref x2 fun q3 =>
  ld [.sl] q3 fun (x4 : Sl) =>
  loop [.int .i64] (0:Int) fun J5 (y6 : Int) =>
  ite' (decide (y6 < ((x4.len : Nat) : Int))) (
  idx x4 y6 9 fun q7 =>
  ld K_u6b3 q7 fun (x8 : T_u6b3) =>
  new [.int .u64 (0:Int), .int .u64 (0:Int), .int .u64 (0:Int), .int .u64 (0:Int), .int .u64 (0:Int), .int .u64 (0:Int), .bool false, .bool false, .bool false] fun n9 =>
  st ⟨n9, 0⟩ (Ks.mk K_u6b3 x8) <|
  ld K_u6b3 ⟨n9, 0⟩ fun (x10 : T_u6b3) =>
  callv Try.prog yield [.agg (Ks.mk K_u6b3 x10)] [.lf .bool] fun (r11 : Bool) =>
  ite' (!r11) (
  R ()) <|
  J5 (IntKind.i64.wrap (y6 + (1:Int)))) <|
  R ()
theorem sem_board_Board_All_c1 (yield : Fv) (c0 : Pt) (R : Rs.T [] → WP) : Same (semF Try.prog Try.f49 (.s (.s .o (.s .o .o)) (.s .o (.b (.l [(12, .lf (.int .i64))] (.s .o (.s (.s .o .o) (.s (.b (.s .o (.s .o (.s .o .o)))) .o))))))) [.lf (.fn yield), .lf (.ptr (some c0))] [] R) (fun w => W_board_Board_All_c1 yield c0 R w) := ⟨by kernel_rfl⟩
theorem call_board_Board_All_c1 (yield : Fv) (c0 : Pt) (R : Rs.T [] → WP) (w : World) (h : W_board_Board_All_c1 yield c0 R w) :
    CallX Try.prog N_board_Board_All_c1 ([.lf (.fn yield), .lf (.ptr (some c0))].map V1.enc) w fun v w' => ∃ x, v = (retTV (Rs.mk [] x)).enc ∧ R x w' :=
  callX_of_semF Try.func49 (by kernel_rfl) (by kernel_rfl) (sem_board_Board_All_c1 yield c0 R) h


/-- (*canter/board.Board).End -/
def W_board_Board_End (b : Option Pt) (R : Rs.T [.lf (.int .u64)] → WP) : WP :=
  ite' b.isNone (
  R (0:Int)) <|
  deref b fun q1 =>
  ld [.int .u64] ⟨q1.b, q1.o + 1⟩ fun (x2 : Int) =>
  R x2
theorem sem_board_Board_End (b : Option Pt) (R : Rs.T [.lf (.int .u64)] → WP) : Same (semF Try.prog Try.f16 (.s .o (.s (.s .o (.s (.s .o .o) .o)) (.s .o .o))) [.lf (.ptr b)] [.lf (.int .u64)] R) (fun w => W_board_Board_End b R w) := ⟨by kernel_rfl⟩
theorem call_board_Board_End (b : Option Pt) (R : Rs.T [.lf (.int .u64)] → WP) (w : World) (h : W_board_Board_End b R w) :
    CallX Try.prog N_board_Board_End ([.lf (.ptr b)].map V1.enc) w fun v w' => ∃ x, v = (retTV (Rs.mk [.lf (.int .u64)] x)).enc ∧ R x w' :=
  callX_of_semF Try.func16 (by kernel_rfl) (by kernel_rfl) (sem_board_Board_End b R) h


/-- (*canter/board.Board).Flight -/
def W_board_Board_Flight (n0 : Nat) (b : Option Pt) (R : Rs.T [.lf (.int .u64)] → WP) : WP :=
  new [.int .u64 (0:Int)] fun n1 =>
  st ⟨n1, 0⟩ [.int .u64 (0:Int)] <|
  call Try.prog N_board_Board_All [.lf (.ptr b)] [.lf .fn] fun (r2 : Fv) =>
  rangeF Try.prog r2 [.agg K_u6b3] (fun (v3 : T_u6b3) mid4 next5 jump6 =>
  new [.int .u64 (0:Int), .int .u64 (0:Int), .int .u64 (0:Int), .int .u64 (0:Int), .int .u64 (0:Int), .int .u64 (0:Int), .bool false, .bool false, .bool false] fun n7 =>
  st ⟨n7, 0⟩ (Ks.mk K_u6b3 v3) <|
  mid4 <|
  ld K_u6b3 ⟨n7, 0⟩ fun (x8 : T_u6b3) =>
  call Try.prog N_board_flying [.agg (Ks.mk K_u6b3 x8)] [.lf .bool] fun (r9 : Bool) =>
  ite' r9 (
  ld [.int .u64] ⟨n1, 0⟩ fun (x10 : Int) =>
  ld [.int .u64] ⟨n7, 1⟩ fun (x11 : Int) =>
  ld [.int .u64] ⟨n7, 0⟩ fun (x12 : Int) =>
  st ⟨n1, 0⟩ [.int .u64 (IntKind.u64.wrap (x10 + (IntKind.u64.wrap (x11 - x12))))] <|
  next5) <|
  next5) fun i13 => isBy 0 i13 (ld [.int .u64] ⟨n1, 0⟩ fun (x14 : Int) =>
  leave n0 <| R x14) <|
  wno
theorem sem_board_Board_Flight (b : Option Pt) (R : Rs.T [.lf (.int .u64)] → WP) : Same (semF Try.prog Try.f17 (.s .o (.s .o (.s (.s .o (.b (.r [.agg K_u6b3] .o (.b (.s .o (.s .o .o)))))) (.s .o .o)))) [.lf (.ptr b)] [.lf (.int .u64)] R) (fun w => W_board_Board_Flight w.heap.size b R w) := ⟨by kernel_rfl⟩
theorem call_board_Board_Flight (b : Option Pt) (R : Rs.T [.lf (.int .u64)] → WP) (w : World) (h : W_board_Board_Flight w.heap.size b R w) :
    CallX Try.prog N_board_Board_Flight ([.lf (.ptr b)].map V1.enc) w fun v w' => ∃ x, v = (retTV (Rs.mk [.lf (.int .u64)] x)).enc ∧ R x w' :=
  callX_of_semF Try.func17 (by kernel_rfl) (by kernel_rfl) (sem_board_Board_Flight b R) h


/-- (*canter/board.Board).Lose -/
def W_board_Board_Lose (b : Option Pt) (R : Rs.T [.lf (.int .u64)] → WP) : WP :=
  ite' b.isNone (
  R (0:Int)) <|
  deref b fun q1 =>
  ld [.sl] q1 fun (x2 : Sl) =>
  loop [.int .u64, .int .i64] ((0:Int), (0:Int)) fun J3 (y4 : Int × Int) =>
  ite' (decide (y4.2 < ((x2.len : Nat) : Int))) (
  idx x2 y4.2 9 fun q5 =>
  ld K_u6b3 q5 fun (x6 : T_u6b3) =>
  new [.int .u64 (0:Int), .int .u64 (0:Int), .int .u64 (0:Int), .int .u64 (0:Int), .int .u64 (0:Int), .int .u64 (0:Int), .bool false, .bool false, .bool false] fun n7 =>
  st ⟨n7, 0⟩ (Ks.mk K_u6b3 x6) <|
  ld K_u6b3 ⟨n7, 0⟩ fun (x8 : T_u6b3) =>
  call Try.prog N_board_flying [.agg (Ks.mk K_u6b3 x8)] [.lf .bool] fun (r9 : Bool) =>
  ite' r9 (
  deref b fun q10 =>
  ld [.sl] q10 fun (x11 : Sl) =>
  idx x11 y4.2 9 fun q12 =>
  st ⟨q12.b, q12.o + 8⟩ [.bool true] <|
  ld [.int .u64] ⟨n7, 1⟩ fun (x13 : Int) =>
  ld [.int .u64] ⟨n7, 0⟩ fun (x14 : Int) =>
  J3 ((IntKind.u64.wrap (y4.1 + (IntKind.u64.wrap (x13 - x14)))), (IntKind.i64.wrap (y4.2 + (1:Int))))) <|
  J3 (y4.1, (IntKind.i64.wrap (y4.2 + (1:Int))))) <|
  R y4.1
theorem sem_board_Board_Lose (b : Option Pt) (R : Rs.T [.lf (.int .u64)] → WP) : Same (semF Try.prog Try.f44 (.s .o (.s (.s .o (.s (.s .o .o) .o)) (.s .o (.s (.s .o (.b (.l [(3, .lf (.int .u64)), (13, .lf (.int .i64))] (.s .o (.s (.s .o .o) (.s (.b (.s .o (.s .o (.s (.s .o .o) .o)))) .o)))))) (.s .o .o))))) [.lf (.ptr b)] [.lf (.int .u64)] R) (fun w => W_board_Board_Lose b R w) := ⟨by kernel_rfl⟩
theorem call_board_Board_Lose (b : Option Pt) (R : Rs.T [.lf (.int .u64)] → WP) (w : World) (h : W_board_Board_Lose b R w) :
    CallX Try.prog N_board_Board_Lose ([.lf (.ptr b)].map V1.enc) w fun v w' => ∃ x, v = (retTV (Rs.mk [.lf (.int .u64)] x)).enc ∧ R x w' :=
  callX_of_semF Try.func44 (by kernel_rfl) (by kernel_rfl) (sem_board_Board_Lose b R) h


/-- (*canter/board.Board).Lost -/
def W_board_Board_Lost (b : Option Pt) (R : Rs.T [.agg [.int .u64, .int .u64], .lf .bool] → WP) : WP :=
  new [.int .u64 (0:Int), .int .u64 (0:Int)] fun n1 =>
  call Try.prog N_board_Board_lost [.lf (.ptr b)] [.lf (.int .i64)] fun (r2 : Int) =>
  ite' (decide (r2 < (0:Int))) (
  st ⟨n1, 0⟩ [.int .u64 (0:Int), .int .u64 (0:Int)] <|
  ld [.int .u64, .int .u64] ⟨n1, 0⟩ fun (x3 : Int × Int) =>
  R (x3, false)) <|
  drw <|
  deref b fun q4 =>
  deref b fun q5 =>
  ld [.sl] q4 fun (x6 : Sl) =>
  ld [.sl] q5 fun (x7 : Sl) =>
  idx x6 r2 9 fun q8 =>
  idx x7 r2 9 fun q9 =>
  ld [.int .u64] q8 fun (x10 : Int) =>
  ld [.int .u64] ⟨q9.b, q9.o + 1⟩ fun (x11 : Int) =>
  st ⟨n1, 0⟩ [.int .u64 x10, .int .u64 x11] <|
  ld [.int .u64, .int .u64] ⟨n1, 0⟩ fun (x12 : Int × Int) =>
  R (x12, true)
theorem sem_board_Board_Lost (b : Option Pt) (R : Rs.T [.agg [.int .u64, .int .u64], .lf .bool] → WP) : Same (semF Try.prog Try.f39 (.s .o (.s .o (.s (.s .o (.s (.s .o .o) .o)) (.s (.d (.f 0 [0] (.f 4 [4] (.f 8 [0] (.f 12 [4] (.f 1 [10] (.f 9 [18] (.f 2 [11] (.f 10 [19] (.f 3 [12] (.f 11 [20] (.f 5 [13, 14] (.f 13 [21, 22] (.f 6 [15] (.f 14 [23] (.f 7 [16] (.f 15 [24] (.f 16 [17, 25] (.w 17 [2, 26] (.w 18 [] .fin)))))))))))))))))))) .o)))) [.lf (.ptr b)] [.agg [.int .u64, .int .u64], .lf .bool] R) (fun w => W_board_Board_Lost b R w) := ⟨by kernel_rfl⟩
theorem call_board_Board_Lost (b : Option Pt) (R : Rs.T [.agg [.int .u64, .int .u64], .lf .bool] → WP) (w : World) (h : W_board_Board_Lost b R w) :
    CallX Try.prog N_board_Board_Lost ([.lf (.ptr b)].map V1.enc) w fun v w' => ∃ x, v = (retTV (Rs.mk [.agg [.int .u64, .int .u64], .lf .bool] x)).enc ∧ R x w' :=
  callX_of_semF Try.func39 (by kernel_rfl) (by kernel_rfl) (sem_board_Board_Lost b R) h


/-- (*canter/board.Board).Sent -/
def W_board_Board_Sent (b : Option Pt) (from' : Int) (to' : Int) (s : T_u4b) (R : Rs.T [.lf (.int .i64)] → WP) : WP :=
  new (Ks.mk K_u4b s) fun n1 =>
  ite' b.isNone (
  R (2:Int)) <|
  deref b fun q2 =>
  ld [.int .u64] ⟨q2.b, q2.o + 1⟩ fun (x3 : Int) =>
  ite' ((from' != x3) || (decide (to' ≤ from'))) (
  R (1:Int)) <|
  deref b fun q4 =>
  ld [.sl] q4 fun (x5 : Sl) =>
  ite' (decide (((x5.len : Nat) : Int) ≥ (4096:Int))) (
  R (5:Int)) <|
  drw <|
  ld K_u4b ⟨n1, 0⟩ fun (x6 : T_u4b) =>
  deref b fun q7 =>
  ld [.sl] q7 fun (x8 : Sl) =>
  new [.int .u64 from', .int .u64 to', .int .u64 x6.1, .int .u64 x6.2.1, .int .u64 x6.2.2.1, .int .u64 x6.2.2.2.1, .bool x6.2.2.2.2, .bool false, .bool false] fun n9 =>
  chk q7 (Ks.mk [.sl] x8) <|
  app 9 x8 ⟨some ⟨n9, 0⟩, 1, 1⟩ fun s10 =>
  deref b fun q11 =>
  st q11 [.sl s10] <|
  deref b fun q12 =>
  st ⟨q12.b, q12.o + 1⟩ [.int .u64 to'] <|
  R (0:Int)
theorem sem_board_Board_Sent (b : Option Pt) (from' : Int) (to' : Int) (s : T_u4b) (R : Rs.T [.lf (.int .i64)] → WP) : Same (semF Try.prog Try.f15 (.s .o (.s (.b (.s .o (.s (.s .o .o) (.s .o (.s (.s .o .o) (.s .o (.s (.s .o .o) .o))))))) (.s (.d (.f 0 [0] (.f 1 [0] (.f 5 [1] (.f 6 [2] (.f 7 [7] (.f 2 [32] (.f 8 [36, 37, 38] (.f 3 [33] (.f 4 [34] (.w 9 [39] (.w 10 [35, 40] (.f 11 [31] (.f 12 [42] (.w 13 [41, 43] .fin))))))))))))))) (.s .o (.s .o .o))))) [.lf (.ptr b), .lf (.int .u64 from'), .lf (.int .u64 to'), .agg (Ks.mk K_u4b s)] [.lf (.int .i64)] R) (fun w => W_board_Board_Sent b from' to' s R w) := ⟨by kernel_rfl⟩
theorem call_board_Board_Sent (b : Option Pt) (from' : Int) (to' : Int) (s : T_u4b) (R : Rs.T [.lf (.int .i64)] → WP) (w : World) (h : W_board_Board_Sent b from' to' s R w) :
    CallX Try.prog N_board_Board_Sent ([.lf (.ptr b), .lf (.int .u64 from'), .lf (.int .u64 to'), .agg (Ks.mk K_u4b s)].map V1.enc) w fun v w' => ∃ x, v = (retTV (Rs.mk [.lf (.int .i64)] x)).enc ∧ R x w' :=
  callX_of_semF Try.func15 (by kernel_rfl) (by kernel_rfl) (sem_board_Board_Sent b from' to' s R) h


/-- (*canter/board.Board).lost -/
def W_board_Board_lost (n0 : Nat) (b : Option Pt) (R : Rs.T [.lf (.int .i64)] → WP) : WP :=
  new [.int .i64 (0:Int)] fun n1 =>
  new [.int .i64 (0:Int)] fun n2 =>
  st ⟨n2, 0⟩ [.int .i64 (0:Int)] <|
  call Try.prog N_board_Board_All [.lf (.ptr b)] [.lf .fn] fun (r3 : Fv) =>
  rangeF Try.prog r3 [.agg K_u6b3] (fun (v4 : T_u6b3) mid5 next6 jump7 =>
  new [.int .u64 (0:Int), .int .u64 (0:Int), .int .u64 (0:Int), .int .u64 (0:Int), .int .u64 (0:Int), .int .u64 (0:Int), .bool false, .bool false, .bool false] fun n8 =>
  st ⟨n8, 0⟩ (Ks.mk K_u6b3 v4) <|
  mid5 <|
  ld [.bool] ⟨n8, 8⟩ fun (x9 : Bool) =>
  ite' x9 (
  ld [.int .i64] ⟨n2, 0⟩ fun (x10 : Int) =>
  st ⟨n1, 0⟩ [.int .i64 x10] <|
  jump7 1) <|
  ld [.int .i64] ⟨n2, 0⟩ fun (x11 : Int) =>
  st ⟨n2, 0⟩ [.int .i64 (IntKind.i64.wrap (x11 + (1:Int)))] <|
  next6) fun i12 => isBy 0 i12 (st ⟨n1, 0⟩ [.int .i64 (-1:Int)] <|
  ld [.int .i64] ⟨n1, 0⟩ fun (x13 : Int) =>
  leave n0 <| R x13) <|
  isBy 1 i12 (ld [.int .i64] ⟨n1, 0⟩ fun (x14 : Int) =>
  leave n0 <| R x14) <|
  wno
theorem sem_board_Board_lost (b : Option Pt) (R : Rs.T [.lf (.int .i64)] → WP) : Same (semF Try.prog Try.f63 (.s .o (.s .o (.s (.s .o (.b (.r [.agg K_u6b3] .o (.b (.s (.s .o (.s (.s .o .o) .o)) .o))))) (.s .o .o)))) [.lf (.ptr b)] [.lf (.int .i64)] R) (fun w => W_board_Board_lost w.heap.size b R w) := ⟨by kernel_rfl⟩
theorem call_board_Board_lost (b : Option Pt) (R : Rs.T [.lf (.int .i64)] → WP) (w : World) (h : W_board_Board_lost w.heap.size b R w) :
    CallX Try.prog N_board_Board_lost ([.lf (.ptr b)].map V1.enc) w fun v w' => ∃ x, v = (retTV (Rs.mk [.lf (.int .i64)] x)).enc ∧ R x w' :=
  callX_of_semF Try.func63 (by kernel_rfl) (by kernel_rfl) (sem_board_Board_lost b R) h


/-- (*canter/board.Board).may -/
def W_board_Board_may (b : Option Pt) (upto : Int) (sacks : Sl) (R : Rs.T [.lf .bool] → WP) : WP :=
  new [.ptr b] fun n1 =>
  ld [.ptr] ⟨n1, 0⟩ fun (x2 : Option Pt) =>
  deref x2 fun q3 =>
  ld [.int .u64] ⟨q3.b, q3.o + 1⟩ fun (x4 : Int) =>
  ite' (decide (upto ≤ x4)) (
  call Try.prog N_slices_ContainsFunc_sapiRangeapiRange [.lf (.sl sacks), .lf (.fn (.mk (.func N_board_Board_may_c1) [] [V1.enc (.lf (.ptr (some ⟨n1, 0⟩)))]))] [.lf .bool] fun (r5 : Bool) =>
  R (!r5)) <|
  R false
theorem sem_board_Board_may (b : Option Pt) (upto : Int) (sacks : Sl) (R : Rs.T [.lf .bool] → WP) : Same (semF Try.prog Try.f50 (.s .o (.s .o .o)) [.lf (.ptr b), .lf (.int .u64 upto), .lf (.sl sacks)] [.lf .bool] R) (fun w => W_board_Board_may b upto sacks R w) := ⟨by kernel_rfl⟩
theorem call_board_Board_may (b : Option Pt) (upto : Int) (sacks : Sl) (R : Rs.T [.lf .bool] → WP) (w : World) (h : W_board_Board_may b upto sacks R w) :
    CallX Try.prog N_board_Board_may ([.lf (.ptr b), .lf (.int .u64 upto), .lf (.sl sacks)].map V1.enc) w fun v w' => ∃ x, v = (retTV (Rs.mk [.lf .bool] x)).enc ∧ R x w' :=
  callX_of_semF Try.func50 (by kernel_rfl) (by kernel_rfl) (sem_board_Board_may b upto sacks R) h


/-- (*canter/board.Board).may$1 -/
def W_board_Board_may_c1 (r : Int × Int) (c0 : Pt) (R : Rs.T [.lf .bool] → WP) : WP :=
  new (Ks.mk [.int .u64, .int .u64] r) fun n1 =>
  drw <|
  ld [.ptr] c0 fun (x2 : Option Pt) =>
  ld [.int .u64] ⟨n1, 1⟩ fun (x3 : Int) =>
  deref x2 fun q4 =>
  ld [.int .u64] ⟨q4.b, q4.o + 1⟩ fun (x5 : Int) =>
  ite' (decide (x3 > x5)) (
  R true) <|
  ld [.int .u64] ⟨n1, 0⟩ fun (x6 : Int) =>
  ld [.int .u64] ⟨n1, 1⟩ fun (x7 : Int) =>
  R (decide (x6 ≥ x7))
theorem sem_board_Board_may_c1 (r : Int × Int) (c0 : Pt) (R : Rs.T [.lf .bool] → WP) : Same (semF Try.prog Try.f71 (.s .o (.s (.d (.f 0 [2] (.f 2 [1] (.f 1 [4] (.f 3 [6] (.f 4 [7] (.f 5 [8] (.f 6 [5, 9] (.f 7 [10] (.f 8 [2, 11] (.f 10 [2, 11] (.f 9 [11, 12] (.f 11 [11, 14] (.f 12 [11, 13, 15] (.f 13 [11, 16] (.w 14 [17] .fin)))))))))))))))) .o)) [.agg (Ks.mk [.int .u64, .int .u64] r), .lf (.ptr (some c0))] [.lf .bool] R) (fun w => W_board_Board_may_c1 r c0 R w) := ⟨by kernel_rfl⟩
theorem call_board_Board_may_c1 (r : Int × Int) (c0 : Pt) (R : Rs.T [.lf .bool] → WP) (w : World) (h : W_board_Board_may_c1 r c0 R w) :
    CallX Try.prog N_board_Board_may_c1 ([.agg (Ks.mk [.int .u64, .int .u64] r), .lf (.ptr (some c0))].map V1.enc) w fun v w' => ∃ x, v = (retTV (Rs.mk [.lf .bool] x)).enc ∧ R x w' :=
  callX_of_semF Try.func71 (by kernel_rfl) (by kernel_rfl) (sem_board_Board_may_c1 r c0 R) h


/-- (*canter/board.Board).passed -/
def W_board_Board_passed (b : Option Pt) (R : Rs.T [.lf (.int .u64)] → WP) : WP :=
  deref b fun q1 =>
  ld [.sl] q1 fun (x2 : Sl) =>
  loop K_ui2 ((0:Int), (0:Int), (IntKind.i64.wrap (((x2.len : Nat) : Int) - (1:Int)))) fun J3 (y4 : T_ui2) =>
  ite' (decide (y4.2.2 ≥ (0:Int))) (
  deref b fun q5 =>
  ld [.sl] q5 fun (x6 : Sl) =>
  idx x6 y4.2.2 9 fun q7 =>
  join [.int .i64] (fun J8 =>
  deref (some q7) fun q10 =>
  ld [.bool] ⟨q10.b, q10.o + 7⟩ fun (x11 : Bool) =>
  ite' x11 (
  J8 (IntKind.i64.wrap (y4.2.1 + (1:Int)))) <|
  J8 y4.2.1) fun (y9 : Int) =>
  deref (some q7) fun q12 =>
  ld K_u6b3 q12 fun (x13 : T_u6b3) =>
  call Try.prog N_board_flying [.agg (Ks.mk K_u6b3 x13)] [.lf .bool] fun (r14 : Bool) =>
  ite' (r14 && (decide (y9 ≥ (3:Int)))) (
  deref (some q7) fun q15 =>
  st ⟨q15.b, q15.o + 8⟩ [.bool true] <|
  drw <|
  deref (some q7) fun q16 =>
  deref (some q7) fun q17 =>
  ld [.int .u64] ⟨q16.b, q16.o + 1⟩ fun (x18 : Int) =>
  ld [.int .u64] q17 fun (x19 : Int) =>
  J3 ((IntKind.u64.wrap (y4.1 + (IntKind.u64.wrap (x18 - x19)))), y9, (IntKind.i64.wrap (y4.2.2 - (1:Int))))) <|
  J3 (y4.1, y9, (IntKind.i64.wrap (y4.2.2 - (1:Int))))) <|
  R y4.1
theorem sem_board_Board_passed (b : Option Pt) (R : Rs.T [.lf (.int .u64)] → WP) : Same (semF Try.prog Try.f52 (.s .o (.s .o (.s (.s .o (.b (.l [(3, .lf (.int .u64)), (4, .lf (.int .i64)), (5, .lf (.int .i64))] (.s (.s .o (.s .o .o)) (.s (.b (.s .o (.j [(4, .lf (.int .i64))] (.s .o (.s .o .o)) (.s .o (.s (.s .o (.d (.f 0 [3] (.f 1 [6] (.f 5 [6] (.f 2 [41] (.f 6 [45] (.f 3 [42] (.f 7 [46] (.f 4 [43] (.f 8 [47] (.f 9 [44, 48] (.f 10 [40, 49] (.w 11 [50] .fin)))))))))))))) .o))))) .o))))) (.s .o .o)))) [.lf (.ptr b)] [.lf (.int .u64)] R) (fun w => W_board_Board_passed b R w) := ⟨by kernel_rfl⟩
theorem call_board_Board_passed (b : Option Pt) (R : Rs.T [.lf (.int .u64)] → WP) (w : World) (h : W_board_Board_passed b R w) :
    CallX Try.prog N_board_Board_passed ([.lf (.ptr b)].map V1.enc) w fun v w' => ∃ x, v = (retTV (Rs.mk [.lf (.int .u64)] x)).enc ∧ R x w' :=
  callX_of_semF Try.func52 (by kernel_rfl) (by kernel_rfl) (sem_board_Board_passed b R) h


/-- canter/board.New -/
def W_board_New  (R : Rs.T [.lf .ptr] → WP) : WP :=
  new [.sl ⟨none, 0, 0⟩, .int .u64 (0:Int)] fun n1 =>
  R (some ⟨n1, 0⟩)
theorem sem_board_New  (R : Rs.T [.lf .ptr] → WP) : Same (semF Try.prog Try.f13 (.s .o (.s .o .o)) [] [.lf .ptr] R) (fun w => W_board_New  R w) := ⟨by kernel_rfl⟩
theorem call_board_New  (R : Rs.T [.lf .ptr] → WP) (w : World) (h : W_board_New  R w) :
    CallX Try.prog N_board_New ([].map V1.enc) w fun v w' => ∃ x, v = (retTV (Rs.mk [.lf .ptr] x)).enc ∧ R x w' :=
  callX_of_semF Try.func13 (by kernel_rfl) (by kernel_rfl) (sem_board_New  R) h


/-- canter/board.flying -/
def W_board_flying (p : T_u6b3) (R : Rs.T [.lf .bool] → WP) : WP :=
  new (Ks.mk K_u6b3 p) fun n1 =>
  ld [.bool] ⟨n1, 7⟩ fun (x2 : Bool) =>
  ite' (!x2) (
  ld [.bool] ⟨n1, 8⟩ fun (x3 : Bool) =>
  R (!x3)) <|
  R false
theorem sem_board_flying (p : T_u6b3) (R : Rs.T [.lf .bool] → WP) : Same (semF Try.prog Try.f47 (.s .o (.s .o .o)) [.agg (Ks.mk K_u6b3 p)] [.lf .bool] R) (fun w => W_board_flying p R w) := ⟨by kernel_rfl⟩
theorem call_board_flying (p : T_u6b3) (R : Rs.T [.lf .bool] → WP) (w : World) (h : W_board_flying p R w) :
    CallX Try.prog N_board_flying ([.agg (Ks.mk K_u6b3 p)].map V1.enc) w fun v w' => ∃ x, v = (retTV (Rs.mk [.lf .bool] x)).enc ∧ R x w' :=
  callX_of_semF Try.func47 (by kernel_rfl) (by kernel_rfl) (sem_board_flying p R) h


/-- canter/board.holds -/
def W_board_holds (sacks : Sl) (p : T_u6b3) (R : Rs.T [.lf .bool] → WP) : WP :=
  new (Ks.mk K_u6b3 p) fun n1 =>
  call Try.prog N_slices_ContainsFunc_sapiRangeapiRange [.lf (.sl sacks), .lf (.fn (.mk (.func N_board_holds_c1) [] [V1.enc (.lf (.ptr (some ⟨n1, 0⟩)))]))] [.lf .bool] fun (r2 : Bool) =>
  R r2
theorem sem_board_holds (sacks : Sl) (p : T_u6b3) (R : Rs.T [.lf .bool] → WP) : Same (semF Try.prog Try.f51 (.s .o (.s .o .o)) [.lf (.sl sacks), .agg (Ks.mk K_u6b3 p)] [.lf .bool] R) (fun w => W_board_holds sacks p R w) := ⟨by kernel_rfl⟩
theorem call_board_holds (sacks : Sl) (p : T_u6b3) (R : Rs.T [.lf .bool] → WP) (w : World) (h : W_board_holds sacks p R w) :
    CallX Try.prog N_board_holds ([.lf (.sl sacks), .agg (Ks.mk K_u6b3 p)].map V1.enc) w fun v w' => ∃ x, v = (retTV (Rs.mk [.lf .bool] x)).enc ∧ R x w' :=
  callX_of_semF Try.func51 (by kernel_rfl) (by kernel_rfl) (sem_board_holds sacks p R) h


/-- canter/board.holds$1 -/
def W_board_holds_c1 (r : Int × Int) (c0 : Pt) (R : Rs.T [.lf .bool] → WP) : WP :=
  new (Ks.mk [.int .u64, .int .u64] r) fun n1 =>
  ld [.int .u64] ⟨n1, 0⟩ fun (x2 : Int) =>
  ld [.int .u64] c0 fun (x3 : Int) =>
  ite' (decide (x2 ≤ x3)) (
  ld [.int .u64] ⟨n1, 1⟩ fun (x4 : Int) =>
  ld [.int .u64] ⟨c0.b, c0.o + 1⟩ fun (x5 : Int) =>
  R (decide (x4 ≥ x5))) <|
  R false
theorem sem_board_holds_c1 (r : Int × Int) (c0 : Pt) (R : Rs.T [.lf .bool] → WP) : Same (semF Try.prog Try.f72 (.s .o (.s .o .o)) [.agg (Ks.mk [.int .u64, .int .u64] r), .lf (.ptr (some c0))] [.lf .bool] R) (fun w => W_board_holds_c1 r c0 R w) := ⟨by kernel_rfl⟩
theorem call_board_holds_c1 (r : Int × Int) (c0 : Pt) (R : Rs.T [.lf .bool] → WP) (w : World) (h : W_board_holds_c1 r c0 R w) :
    CallX Try.prog N_board_holds_c1 ([.agg (Ks.mk [.int .u64, .int .u64] r), .lf (.ptr (some c0))].map V1.enc) w fun v w' => ∃ x, v = (retTV (Rs.mk [.lf .bool] x)).enc ∧ R x w' :=
  callX_of_semF Try.func72 (by kernel_rfl) (by kernel_rfl) (sem_board_holds_c1 r c0 R) h


/-- canter/canterhelp.All[canter/api.Piece] -/
def W_canterhelp_All_apiPiece (f : Fv) (most : Int) (R : Rs.T [.lf .sl] → WP) : WP :=
  new [.int .i64 most] fun n1 =>
  new [.sl ⟨none, 0, 0⟩] fun n2 =>
  ite' (isNilF f) (
  R ⟨none, 0, 0⟩) <|
  callv Try.prog f [.lf (.fn (.mk (.func N_canterhelp_All_apiPiece_c1) [] [V1.enc (.lf (.ptr (some ⟨n2, 0⟩))), V1.enc (.lf (.ptr (some ⟨n1, 0⟩)))]))] [] fun (r3 : Unit) =>
  ld [.sl] ⟨n2, 0⟩ fun (x4 : Sl) =>
  R x4
theorem sem_canterhelp_All_apiPiece (f : Fv) (most : Int) (R : Rs.T [.lf .sl] → WP) : Same (semF Try.prog Try.f18 (.s .o (.s .o (.s (.s .o (.s (.s .o .o) .o)) (.s .o (.s .o .o))))) [.lf (.fn f), .lf (.int .i64 most)] [.lf .sl] R) (fun w => W_canterhelp_All_apiPiece f most R w) := ⟨by kernel_rfl⟩
theorem call_canterhelp_All_apiPiece (f : Fv) (most : Int) (R : Rs.T [.lf .sl] → WP) (w : World) (h : W_canterhelp_All_apiPiece f most R w) :
    CallX Try.prog N_canterhelp_All_apiPiece ([.lf (.fn f), .lf (.int .i64 most)].map V1.enc) w fun v w' => ∃ x, v = (retTV (Rs.mk [.lf .sl] x)).enc ∧ R x w' :=
  callX_of_semF Try.func18 (by kernel_rfl) (by kernel_rfl) (sem_canterhelp_All_apiPiece f most R) h


/-- canter/canterhelp.All[canter/api.Piece]$1 -/
def W_canterhelp_All_apiPiece_c1 (x : T_u6b3) (c0 : Pt) (c1 : Pt) (R : Rs.T [.lf .bool] → WP) : WP :=
  new (Ks.mk K_u6b3 x) fun n1 =>
  ld [.sl] c0 fun (x2 : Sl) =>
  ld K_u6b3 ⟨n1, 0⟩ fun (x3 : T_u6b3) =>
  new [.int .u64 x3.1, .int .u64 x3.2.1, .int .u64 x3.2.2.1, .int .u64 x3.2.2.2.1, .int .u64 x3.2.2.2.2.1, .int .u64 x3.2.2.2.2.2.1, .bool x3.2.2.2.2.2.2.1, .bool x3.2.2.2.2.2.2.2.1, .bool x3.2.2.2.2.2.2.2.2] fun n4 =>
  app 9 x2 ⟨some ⟨n4, 0⟩, 1, 1⟩ fun s5 =>
  st c0 [.sl s5] <|
  ld [.sl] c0 fun (x6 : Sl) =>
  ld [.int .i64] c1 fun (x7 : Int) =>
  R (decide (((x6.len : Nat) : Int) < x7))
theorem sem_canterhelp_All_apiPiece_c1 (x : T_u6b3) (c0 : Pt) (c1 : Pt) (R : Rs.T [.lf .bool] → WP) : Same (semF Try.prog Try.f48 (.s .o (.s .o (.s .o .o))) [.agg (Ks.mk K_u6b3 x), .lf (.ptr (some c0)), .lf (.ptr (some c1))] [.lf .bool] R) (fun w => W_canterhelp_All_apiPiece_c1 x c0 c1 R w) := ⟨by kernel_rfl⟩
theorem call_canterhelp_All_apiPiece_c1 (x : T_u6b3) (c0 : Pt) (c1 : Pt) (R : Rs.T [.lf .bool] → WP) (w : World) (h : W_canterhelp_All_apiPiece_c1 x c0 c1 R w) :
    CallX Try.prog N_canterhelp_All_apiPiece_c1 ([.agg (Ks.mk K_u6b3 x), .lf (.ptr (some c0)), .lf (.ptr (some c1))].map V1.enc) w fun v w' => ∃ x, v = (retTV (Rs.mk [.lf .bool] x)).enc ∧ R x w' :=
  callX_of_semF Try.func48 (by kernel_rfl) (by kernel_rfl) (sem_canterhelp_All_apiPiece_c1 x c0 c1 R) h


/-- canter/canterhelp.In[uint64] -/
def W_canterhelp_In_uint64 (l : Sl) (x : Int) (R : Rs.T [.lf .bool] → WP) : WP :=
  loop [.int .i64] (0:Int) fun J1 (y2 : Int) =>
  ite' (decide (y2 < ((l.len : Nat) : Int))) (
  idx l y2 1 fun q3 =>
  ld [.int .u64] q3 fun (x4 : Int) =>
  ite' (x4 == x) (
  R true) <|
  J1 (IntKind.i64.wrap (y2 + (1:Int)))) <|
  R false
theorem sem_canterhelp_In_uint64 (l : Sl) (x : Int) (R : Rs.T [.lf .bool] → WP) : Same (semF Try.prog Try.f46 (.s .o (.s (.s .o (.b (.l [(5, .lf (.int .i64))] (.s (.s .o (.s .o .o)) (.s (.b (.s .o (.s (.s .o .o) .o))) .o))))) (.s .o .o))) [.lf (.sl l), .lf (.int .u64 x)] [.lf .bool] R) (fun w => W_canterhelp_In_uint64 l x R w) := ⟨by kernel_rfl⟩
theorem call_canterhelp_In_uint64 (l : Sl) (x : Int) (R : Rs.T [.lf .bool] → WP) (w : World) (h : W_canterhelp_In_uint64 l x R w) :
    CallX Try.prog N_canterhelp_In_uint64 ([.lf (.sl l), .lf (.int .u64 x)].map V1.enc) w fun v w' => ∃ x, v = (retTV (Rs.mk [.lf .bool] x)).enc ∧ R x w' :=
  callX_of_semF Try.func46 (by kernel_rfl) (by kernel_rfl) (sem_canterhelp_In_uint64 l x R) h


/-- canter/canterlaw24.BoardOnce -/
def W_canterlaw24_BoardOnce (d : Sl) (R : Rs.T [.lf .bool] → WP) : WP :=
  call Try.prog N_board_New [] [.lf .ptr] fun (r1 : Option Pt) =>
  call Try.prog N_canterlaw24_awake [] [.lf .bool] fun (r2 : Bool) =>
  ite' ((!r2) || r1.isNone) (
  R false) <|
  loop K_usi ((0:Int), ⟨none, 0, 0⟩, (0:Int)) fun J3 (y4 : T_usi) =>
  ite' ((decide (y4.2.2 < ((d.len : Nat) : Int))) && (decide (y4.2.2 < (60:Int)))) (
  idx d y4.2.2 11 fun q5 =>
  ld K_i2u2su4b2 q5 fun (x6 : T_i2u2su4b2) =>
  new [.int .i64 (0:Int), .int .i64 (0:Int), .int .u64 (0:Int), .int .u64 (0:Int), .sl ⟨none, 0, 0⟩, .int .u64 (0:Int), .int .u64 (0:Int), .int .u64 (0:Int), .int .u64 (0:Int), .bool false, .bool false] fun n7 =>
  st ⟨n7, 0⟩ (Ks.mk K_i2u2su4b2 x6) <|
  join [.sl] (fun J8 =>
  ld [.int .i64] ⟨n7, 0⟩ fun (x10 : Int) =>
  ite' (x10 == (1:Int)) (
  ld [.sl] ⟨n7, 4⟩ fun (x11 : Sl) =>
  ite' (decide (((x11.len : Nat) : Int) ≤ (8:Int))) (
  ld [.int .u64] ⟨n7, 2⟩ fun (x12 : Int) =>
  ld [.sl] ⟨n7, 4⟩ fun (x13 : Sl) =>
  call Try.prog N_board_Board_Ack [.lf (.ptr r1), .lf (.int .u64 x12), .lf (.sl x13)] [.lf .sl, .lf (.int .u64), .lf (.int .i64)] fun (r14 : Sl × Int × Int) =>
  J8 r14.1) <|
  J8 ⟨none, 0, 0⟩) <|
  ite' (x10 == (2:Int)) (
  call Try.prog N_board_Board_Lose [.lf (.ptr r1)] [.lf (.int .u64)] fun (r15 : Int) =>
  J8 ⟨none, 0, 0⟩) <|
  ite' (x10 == (3:Int)) (
  ld K_u4b ⟨n7, 5⟩ fun (x16 : T_u4b) =>
  call Try.prog N_board_Board_Again [.lf (.ptr r1), .agg (Ks.mk K_u4b x16)] [.agg [.int .u64, .int .u64], .lf .bool] fun (r17 : (Int × Int) × Bool) =>
  J8 ⟨none, 0, 0⟩) <|
  drw <|
  ld [.int .i64] ⟨n7, 1⟩ fun (x18 : Int) =>
  ld K_u4b ⟨n7, 5⟩ fun (x19 : T_u4b) =>
  call Try.prog N_board_Board_End [.lf (.ptr r1)] [.lf (.int .u64)] fun (r20 : Int) =>
  chk ⟨n7, 5⟩ (Ks.mk K_u4b x19) <|
  chk ⟨n7, 1⟩ (Ks.mk [.int .i64] x18) <|
  call Try.prog N_board_Board_End [.lf (.ptr r1)] [.lf (.int .u64)] fun (r21 : Int) =>
  chk ⟨n7, 5⟩ (Ks.mk K_u4b x19) <|
  chk ⟨n7, 1⟩ (Ks.mk [.int .i64] x18) <|
  call Try.prog N_board_Board_Sent [.lf (.ptr r1), .lf (.int .u64 r20), .lf (.int .u64 (IntKind.u64.wrap ((IntKind.u64.wrap (r21 + (1:Int))) + ((IntKind.u64.wrap x18).tmod (5000:Int))))), .agg (Ks.mk K_u4b x19)] [.lf (.int .i64)] fun (r22 : Int) =>
  J8 ⟨none, 0, 0⟩) fun (y9 : Sl) =>
  loop K_usi (y4.1, y4.2.1, (0:Int)) fun J23 (y24 : T_usi) =>
  ite' (decide (y24.2.2 < ((y9.len : Nat) : Int))) (
  idx y9 y24.2.2 9 fun q25 =>
  ld [.int .u64] q25 fun (x26 : Int) =>
  call Try.prog N_canterhelp_In_uint64 [.lf (.sl y24.2.1), .lf (.int .u64 x26)] [.lf .bool] fun (r27 : Bool) =>
  ite' r27 (
  R false) <|
  idx y9 y24.2.2 9 fun q28 =>
  ld [.int .u64] q28 fun (x29 : Int) =>
  new [.int .u64 x29] fun n30 =>
  app 1 y24.2.1 ⟨some ⟨n30, 0⟩, 1, 1⟩ fun s31 =>
  drw <|
  idx y9 y24.2.2 9 fun q32 =>
  idx y9 y24.2.2 9 fun q33 =>
  ld [.int .u64] ⟨q32.b, q32.o + 1⟩ fun (x34 : Int) =>
  ld [.int .u64] q33 fun (x35 : Int) =>
  J23 ((IntKind.u64.wrap ((IntKind.u64.wrap (y24.1 + x34)) - x35)), s31, (IntKind.i64.wrap (y24.2.2 + (1:Int))))) <|
  J3 (y24.1, y24.2.1, (IntKind.i64.wrap (y4.2.2 + (1:Int))))) <|
  call Try.prog N_board_Board_End [.lf (.ptr r1)] [.lf (.int .u64)] fun (r36 : Int) =>
  call Try.prog N_board_Board_Ack [.lf (.ptr r1), .lf (.int .u64 r36), .lf (.sl ⟨none, 0, 0⟩)] [.lf .sl, .lf (.int .u64), .lf (.int .i64)] fun (r37 : Sl × Int × Int) =>
  loop [.int .u64, .int .i64] (y4.1, (0:Int)) fun J38 (y39 : Int × Int) =>
  ite' (decide (y39.2 < ((r37.1.len : Nat) : Int))) (
  idx r37.1 y39.2 9 fun q40 =>
  ld [.int .u64] q40 fun (x41 : Int) =>
  call Try.prog N_canterhelp_In_uint64 [.lf (.sl y4.2.1), .lf (.int .u64 x41)] [.lf .bool] fun (r42 : Bool) =>
  ite' r42 (
  R false) <|
  drw <|
  idx r37.1 y39.2 9 fun q43 =>
  idx r37.1 y39.2 9 fun q44 =>
  ld [.int .u64] ⟨q43.b, q43.o + 1⟩ fun (x45 : Int) =>
  ld [.int .u64] q44 fun (x46 : Int) =>
  J38 ((IntKind.u64.wrap ((IntKind.u64.wrap (y39.1 + x45)) - x46)), (IntKind.i64.wrap (y39.2 + (1:Int))))) <|
  ite' (r37.2.2 == (0:Int)) (
  call Try.prog N_board_Board_End [.lf (.ptr r1)] [.lf (.int .u64)] fun (r47 : Int) =>
  ite' (y39.1 == r47) (
  call Try.prog N_board_Board_Flight [.lf (.ptr r1)] [.lf (.int .u64)] fun (r48 : Int) =>
  ite' (r48 == (0:Int)) (
  call Try.prog N_board_Board_All [.lf (.ptr r1)] [.lf .fn] fun (r49 : Fv) =>
  call Try.prog N_canterhelp_All_apiPiece [.lf (.fn r49), .lf (.int .i64 (3:Int))] [.lf .sl] fun (r50 : Sl) =>
  R (((r50.len : Nat) : Int) == (0:Int))) <|
  R false) <|
  R false) <|
  R false
theorem sem_canterlaw24_BoardOnce (d : Sl) (R : Rs.T [.lf .bool] → WP) : Same (semF Try.prog Try.f10 (.s .o (.s .o (.s (.s .o (.s (.s .o .o) .o)) (.s .o (.s .o (.s (.s .o (.b (.l [(4, .lf (.int .u64)), (5, .lf .sl), (6, .lf (.int .i64))] (.s (.s .o (.s .o .o)) (.s (.b (.s .o (.s .o (.j [(8, .lf .sl)] (.s .o (.b (.s .o (.s (.s .o (.s .o .o)) (.s .o (.s .o (.s .o (.s .o (.d (.f 0 [3] (.f 1 [3] (.f 3 [3] (.f 6 [7] (.f 11 [7] (.f 7 [43] (.f 12 [48] (.f 8 [44] (.f 9 [45] (.w 2 [38] (.w 4 [40] (.f 5 [41] (.f 10 [42, 46] (.w 13 [37, 39, 47, 49] .fin))))))))))))))))))))))) (.s .o (.b (.l [(4, .lf (.int .u64)), (5, .lf .sl), (9, .lf (.int .i64))] (.s (.s .o (.s .o .o)) (.s (.b (.s (.s .o (.s (.s .o .o) .o)) (.s .o (.d (.f 0 [4] (.f 1 [8] (.f 2 [9] (.f 7 [8] (.f 8 [9] (.f 3 [99, 100] (.f 9 [105, 106] (.f 4 [101] (.f 10 [107] (.f 5 [102] (.f 11 [108] (.f 6 [98, 103] (.f 12 [104, 109] (.w 13 [110] .fin)))))))))))))))))) .o))))))))) .o))))) (.s .o (.s (.s .o (.b (.l [(4, .lf (.int .u64)), (13, .lf (.int .i64))] (.s (.s .o (.s .o .o)) (.s (.b (.s (.s .o (.s (.s .o .o) .o)) (.d (.f 0 [4] (.f 1 [10] (.f 2 [13] (.f 7 [10] (.f 8 [13] (.f 3 [133, 134] (.f 9 [139, 140] (.f 4 [135] (.f 10 [141] (.f 5 [136] (.f 11 [142] (.f 6 [132, 137] (.f 12 [138, 143] (.w 13 [144] .fin))))))))))))))))) .o))))) (.s .o .o))))))))) [.lf (.sl d)] [.lf .bool] R) (fun w => W_canterlaw24_BoardOnce d R w) := ⟨by kernel_rfl⟩
theorem call_canterlaw24_BoardOnce (d : Sl) (R : Rs.T [.lf .bool] → WP) (w : World) (h : W_canterlaw24_BoardOnce d R w) :
    CallX Try.prog N_canterlaw24_BoardOnce ([.lf (.sl d)].map V1.enc) w fun v w' => ∃ x, v = (retTV (Rs.mk [.lf .bool] x)).enc ∧ R x w' :=
  callX_of_semF Try.func10 (by kernel_rfl) (by kernel_rfl) (sem_canterlaw24_BoardOnce d R) h


/-- canter/canterlaw24.awake -/
def W_canterlaw24_awake  (R : Rs.T [.lf .bool] → WP) : WP :=
  call Try.prog N_board_New [] [.lf .ptr] fun (r1 : Option Pt) =>
  join [.bool] (fun J2 =>
  ite' r1.isNone (
  J2 true) <|
  call Try.prog N_board_Board_Sent [.lf (.ptr r1), .lf (.int .u64 (0:Int)), .lf (.int .u64 (10:Int)), .agg [.int .u64 (0:Int), .int .u64 (0:Int), .int .u64 (0:Int), .int .u64 (0:Int), .bool false]] [.lf (.int .i64)] fun (r4 : Int) =>
  ite' (r4 != (0:Int)) (
  J2 true) <|
  call Try.prog N_board_Board_Flight [.lf (.ptr r1)] [.lf (.int .u64)] fun (r5 : Int) =>
  J2 (r5 != (10:Int))) fun (y3 : Bool) =>
  ite' y3 (
  R false) <|
  call Try.prog N_board_Board_Ack [.lf (.ptr r1), .lf (.int .u64 (10:Int)), .lf (.sl ⟨none, 0, 0⟩)] [.lf .sl, .lf (.int .u64), .lf (.int .i64)] fun (r6 : Sl × Int × Int) =>
  ite' ((r6.2.2 == (0:Int)) && (((r6.1.len : Nat) : Int) == (1:Int))) (
  call Try.prog N_board_Board_Flight [.lf (.ptr r1)] [.lf (.int .u64)] fun (r7 : Int) =>
  ite' (r7 == (0:Int)) (
  call Try.prog N_board_Board_End [.lf (.ptr r1)] [.lf (.int .u64)] fun (r8 : Int) =>
  ite' (r8 == (10:Int)) (
  call Try.prog N_board_Board_All [.lf (.ptr r1)] [.lf .fn] fun (r9 : Fv) =>
  call Try.prog N_canterhelp_All_apiPiece [.lf (.fn r9), .lf (.int .i64 (9:Int))] [.lf .sl] fun (r10 : Sl) =>
  R (((r10.len : Nat) : Int) == (0:Int))) <|
  R false) <|
  R false) <|
  R false
theorem sem_canterlaw24_awake  (R : Rs.T [.lf .bool] → WP) : Same (semF Try.prog Try.f14 (.s .o (.s .o (.s (.j [(18, .lf .bool)] .o (.s (.s .o .o) .o)) (.s .o (.s .o .o))))) [] [.lf .bool] R) (fun w => W_canterlaw24_awake  R w) := ⟨by kernel_rfl⟩
theorem call_canterlaw24_awake  (R : Rs.T [.lf .bool] → WP) (w : World) (h : W_canterlaw24_awake  R w) :
    CallX Try.prog N_canterlaw24_awake ([].map V1.enc) w fun v w' => ∃ x, v = (retTV (Rs.mk [.lf .bool] x)).enc ∧ R x w' :=
  callX_of_semF Try.func14 (by kernel_rfl) (by kernel_rfl) (sem_canterlaw24_awake  R) h


/-- slices.ContainsFunc[[]canter/api.Range,canter/api.Range] -/
def W_slices_ContainsFunc_sapiRangeapiRange (s : Sl) (f : Fv) (R : Rs.T [.lf .bool] → WP) : WP :=
  call Try.prog N_slices_IndexFunc_sapiRangeapiRange [.lf (.sl s), .lf (.fn f)] [.lf (.int .i64)] fun (r1 : Int) =>
  R (decide (r1 ≥ (0:Int)))
theorem sem_slices_ContainsFunc_sapiRangeapiRange (s : Sl) (f : Fv) (R : Rs.T [.lf .bool] → WP) : Same (semF Try.prog Try.f70 (.s .o (.s .o .o)) [.lf (.sl s), .lf (.fn f)] [.lf .bool] R) (fun w => W_slices_ContainsFunc_sapiRangeapiRange s f R w) := ⟨by kernel_rfl⟩
theorem call_slices_ContainsFunc_sapiRangeapiRange (s : Sl) (f : Fv) (R : Rs.T [.lf .bool] → WP) (w : World) (h : W_slices_ContainsFunc_sapiRangeapiRange s f R w) :
    CallX Try.prog N_slices_ContainsFunc_sapiRangeapiRange ([.lf (.sl s), .lf (.fn f)].map V1.enc) w fun v w' => ∃ x, v = (retTV (Rs.mk [.lf .bool] x)).enc ∧ R x w' :=
  callX_of_semF Try.func70 (by kernel_rfl) (by kernel_rfl) (sem_slices_ContainsFunc_sapiRangeapiRange s f R) h


/-- slices.IndexFunc[[]canter/api.Range,canter/api.Range] -/
def W_slices_IndexFunc_sapiRangeapiRange (s : Sl) (f : Fv) (R : Rs.T [.lf (.int .i64)] → WP) : WP :=
  loop [.int .i64] (0:Int) fun J1 (y2 : Int) =>
  ite' (decide (y2 < ((s.len : Nat) : Int))) (
  idx s y2 2 fun q3 =>
  ld [.int .u64, .int .u64] q3 fun (x4 : Int × Int) =>
  callv Try.prog f [.agg (Ks.mk [.int .u64, .int .u64] x4)] [.lf .bool] fun (r5 : Bool) =>
  ite' r5 (
  R y2) <|
  J1 (IntKind.i64.wrap (y2 + (1:Int)))) <|
  R (-1:Int)
theorem sem_slices_IndexFunc_sapiRangeapiRange (s : Sl) (f : Fv) (R : Rs.T [.lf (.int .i64)] → WP) : Same (semF Try.prog Try.f79 (.s .o (.s (.s .o (.b (.l [(8, .lf (.int .i64))] (.s .o (.s (.s .o .o) (.s (.b (.s .o (.s .o (.s (.s .o .o) .o)))) .o)))))) (.s .o .o))) [.lf (.sl s), .lf (.fn f)] [.lf (.int .i64)] R) (fun w => W_slices_IndexFunc_sapiRangeapiRange s f R w) := ⟨by kernel_rfl⟩
theorem call_slices_IndexFunc_sapiRangeapiRange (s : Sl) (f : Fv) (R : Rs.T [.lf (.int .i64)] → WP) (w : World) (h : W_slices_IndexFunc_sapiRangeapiRange s f R w) :
    CallX Try.prog N_slices_IndexFunc_sapiRangeapiRange ([.lf (.sl s), .lf (.fn f)].map V1.enc) w fun v w' => ∃ x, v = (retTV (Rs.mk [.lf (.int .i64)] x)).enc ∧ R x w' :=
  callX_of_semF Try.func79 (by kernel_rfl) (by kernel_rfl) (sem_slices_IndexFunc_sapiRangeapiRange s f R) h



end Go.X
