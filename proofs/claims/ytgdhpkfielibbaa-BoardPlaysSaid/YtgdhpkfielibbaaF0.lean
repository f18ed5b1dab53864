/- What each function of the program computes, as a weakest precondition, printed by program; the kernel sees that the code says so. -/
import Derived.Test.YtgdhpkfielibbaaK
import Derived.Test.YtgdhpkfielibbaaProg
set_option linter.unusedVariables false
namespace Go.X
open Go.Proofs
/-- (*canter/board.Board).Ack -/
def W_board_Board_Ack (d : Option Pt) (o : Int) (a : Sl) (R : Rs.T [.lf .sl, .lf (.int .u64), .lf (.int .i64)] → WP) : WP :=
  ite' d.isNone (
  R (⟨none, 0, 0⟩, (0:Int), (2:Int))) <|
  call Try.prog N_board_Board_may [.lf (.ptr d), .lf (.int .u64 o), .lf (.sl a)] [.lf .bool] fun (r1 : Bool) =>
  ite' (!r1) (
  R (⟨none, 0, 0⟩, (0:Int), (11:Int))) <|
  deref d fun q2 =>
  ld [.sl] q2 fun (x3 : Sl) =>
  loop K_s2i (⟨none, 0, 0⟩, ⟨none, 0, 0⟩, (0:Int)) fun J4 (y5 : T_s2i) =>
  ite' (decide (y5.2.2 < ((x3.len : Nat) : Int))) (
  idx x3 y5.2.2 9 fun q6 =>
  ld K_u6b3 q6 fun (x7 : T_u6b3) =>
  new [.int .u64 (0:Int), .int .u64 (0:Int), .int .u64 (0:Int), .int .u64 (0:Int), .int .u64 (0:Int), .int .u64 (0:Int), .bool false, .bool false, .bool false] fun n8 =>
  st ⟨n8, 0⟩ (Ks.mk K_u6b3 x7) <|
  ld [.int .u64] ⟨n8, 1⟩ fun (x9 : Int) =>
  join [.sl] (fun J10 =>
  join [.bool] (fun J12 =>
  ld [.bool] ⟨n8, 7⟩ fun (x14 : Bool) =>
  ite' (!x14) (
  ite' (decide (x9 ≤ o)) (
  J12 true) <|
  ld K_u6b3 ⟨n8, 0⟩ fun (x15 : T_u6b3) =>
  call Try.prog N_board_holds [.lf (.sl a), .agg (Ks.mk K_u6b3 x15)] [.lf .bool] fun (r16 : Bool) =>
  J12 r16) <|
  J12 false) fun (y13 : Bool) =>
  ite' y13 (
  ld K_u6b3 ⟨n8, 0⟩ fun (x17 : T_u6b3) =>
  new [.int .u64 x17.1, .int .u64 x17.2.1, .int .u64 x17.2.2.1, .int .u64 x17.2.2.2.1, .int .u64 x17.2.2.2.2.1, .int .u64 x17.2.2.2.2.2.1, .bool x17.2.2.2.2.2.2.1, .bool x17.2.2.2.2.2.2.2.1, .bool x17.2.2.2.2.2.2.2.2] fun n18 =>
  app 9 y5.1 ⟨some ⟨n18, 0⟩, 1, 1⟩ fun s19 =>
  st ⟨n8, 7⟩ [.bool true] <|
  st ⟨n8, 8⟩ [.bool false] <|
  J10 s19) <|
  J10 y5.1) fun (y11 : Sl) =>
  ite' (decide (x9 ≤ o)) (
  J4 (y11, y5.2.1, (IntKind.i64.wrap (y5.2.2 + (1:Int))))) <|
  ld K_u6b3 ⟨n8, 0⟩ fun (x20 : T_u6b3) =>
  new [.int .u64 x20.1, .int .u64 x20.2.1, .int .u64 x20.2.2.1, .int .u64 x20.2.2.2.1, .int .u64 x20.2.2.2.2.1, .int .u64 x20.2.2.2.2.2.1, .bool x20.2.2.2.2.2.2.1, .bool x20.2.2.2.2.2.2.2.1, .bool x20.2.2.2.2.2.2.2.2] fun n21 =>
  app 9 y5.2.1 ⟨some ⟨n21, 0⟩, 1, 1⟩ fun s22 =>
  J4 (y11, s22, (IntKind.i64.wrap (y5.2.2 + (1:Int))))) <|
  deref d fun q23 =>
  st q23 [.sl y5.2.1] <|
  call Try.prog N_board_Board_passed [.lf (.ptr d)] [.lf (.int .u64)] fun (r24 : Int) =>
  R (y5.1, r24, (0:Int))
theorem sem_board_Board_Ack (d : Option Pt) (o : Int) (a : Sl) (R : Rs.T [.lf .sl, .lf (.int .u64), .lf (.int .i64)] → WP) : Same (semF Try.prog Try.f20 (.s .o (.s (.b (.s .o (.s (.s .o .o) (.s .o (.s (.s .o .o) .o))))) (.s .o (.s .o (.s (.s .o (.b (.l [(9, .lf .sl), (10, .lf .sl), (28, .lf (.int .i64))] (.s .o (.s (.s .o .o) (.s (.b (.s .o (.s .o (.j [(9, .lf .sl)] (.j [(46, .lf .bool)] .o (.s (.s .o .o) .o)) (.s (.s .o (.s .o .o)) .o))))) .o)))))) (.s .o (.s .o .o))))))) [.lf (.ptr d), .lf (.int .u64 o), .lf (.sl a)] [.lf .sl, .lf (.int .u64), .lf (.int .i64)] R) (fun w => W_board_Board_Ack d o a R w) := ⟨by kernel_rfl⟩
theorem call_board_Board_Ack (d : Option Pt) (o : Int) (a : Sl) (R : Rs.T [.lf .sl, .lf (.int .u64), .lf (.int .i64)] → WP) (w : World) (h : W_board_Board_Ack d o a R w) :
    CallX Try.prog N_board_Board_Ack ([.lf (.ptr d), .lf (.int .u64 o), .lf (.sl a)].map V1.enc) w fun v w' => ∃ x, v = (retTV (Rs.mk [.lf .sl, .lf (.int .u64), .lf (.int .i64)] x)).enc ∧ R x w' :=
  callX_of_semF Try.func20 (by kernel_rfl) (by kernel_rfl) (sem_board_Board_Ack d o a R) h


/-- (*canter/board.Board).Again -/
def W_board_Board_Again (b : Option Pt) (s : T_u4b) (R : Rs.T [.agg [.int .u64, .int .u64], .lf .bool] → WP) : WP :=
  new (Ks.mk K_u4b s) fun n1 =>
  new [.int .u64 (0:Int), .int .u64 (0:Int)] fun n2 =>
  call Try.prog N_board_Board_Lost [.lf (.ptr b)] [.agg [.int .u64, .int .u64], .lf .bool] fun (r3 : (Int × Int) × Bool) =>
  new [.int .u64 (0:Int), .int .u64 (0:Int)] fun n4 =>
  st ⟨n4, 0⟩ (Ks.mk [.int .u64, .int .u64] r3.1) <|
  join [] (fun J5 =>
  ite' r3.2 (
  drw <|
  deref b fun q7 =>
  ld [.sl] q7 fun (x8 : Sl) =>
  call Try.prog N_board_Board_lost [.lf (.ptr b)] [.lf (.int .i64)] fun (r9 : Int) =>
  chk q7 (Ks.mk [.sl] x8) <|
  idx x8 r9 9 fun q10 =>
  drw <|
  ld K_u4b ⟨n1, 0⟩ fun (x11 : T_u4b) =>
  deref (some q10) fun q12 =>
  st ⟨q12.b, q12.o + 8⟩ [.bool false] <|
  chk ⟨n1, 0⟩ (Ks.mk K_u4b x11) <|
  deref (some q10) fun q13 =>
  st ⟨q13.b, q13.o + 2⟩ (Ks.mk K_u4b x11) <|
  J5 ()) <|
  J5 ()) fun (y6 : Unit) =>
  ld [.int .u64, .int .u64] ⟨n4, 0⟩ fun (x14 : Int × Int) =>
  st ⟨n2, 0⟩ (Ks.mk [.int .u64, .int .u64] x14) <|
  ld [.int .u64, .int .u64] ⟨n2, 0⟩ fun (x15 : Int × Int) =>
  R (x15, r3.2)
theorem sem_board_Board_Again (b : Option Pt) (s : T_u4b) (R : Rs.T [.agg [.int .u64, .int .u64], .lf .bool] → WP) : Same (semF Try.prog Try.f45 (.s .o (.s .o (.j [] (.s .o (.s (.s (.d (.f 0 [0] (.f 4 [0] (.f 1 [15] (.f 2 [16] (.f 3 [17] (.w 5 [19] (.f 6 [18, 20] (.w 7 [21] .fin))))))))) (.d (.f 0 [8] (.f 1 [8] (.f 2 [3] (.f 3 [22] (.f 4 [25] (.w 5 [26] (.f 6 [23] (.f 7 [27] (.w 8 [24, 28] .fin))))))))))) .o)) (.s .o .o)))) [.lf (.ptr b), .agg (Ks.mk K_u4b s)] [.agg [.int .u64, .int .u64], .lf .bool] R) (fun w => W_board_Board_Again b s R w) := ⟨by kernel_rfl⟩
theorem call_board_Board_Again (b : Option Pt) (s : T_u4b) (R : Rs.T [.agg [.int .u64, .int .u64], .lf .bool] → WP) (w : World) (h : W_board_Board_Again b s R w) :
    CallX Try.prog N_board_Board_Again ([.lf (.ptr b), .agg (Ks.mk K_u4b s)].map V1.enc) w fun v w' => ∃ x, v = (retTV (Rs.mk [.agg [.int .u64, .int .u64], .lf .bool] x)).enc ∧ R x w' :=
  callX_of_semF Try.func45 (by kernel_rfl) (by kernel_rfl) (sem_board_Board_Again b s R) h


/-- (*canter/board.Board).All -/
def W_board_Board_All (b : Option Pt) (R : Rs.T [.lf .fn] → WP) : WP :=
  new [.ptr b] fun n1 =>
  R (.mk (.func N_board_Board_All_c1) [] [V1.enc (.lf (.ptr (some ⟨n1, 0⟩)))])
theorem sem_board_Board_All (b : Option Pt) (R : Rs.T [.lf .fn] → WP) : Same (semF Try.prog Try.f19 (.s .o (.s .o .o)) [.lf (.ptr b)] [.lf .fn] R) (fun w => W_board_Board_All b R w) := ⟨by kernel_rfl⟩
theorem call_board_Board_All (b : Option Pt) (R : Rs.T [.lf .fn] → WP) (w : World) (h : W_board_Board_All b R w) :
    CallX Try.prog N_board_Board_All ([.lf (.ptr b)].map V1.enc) w fun v w' => ∃ x, v = (retTV (Rs.mk [.lf .fn] x)).enc ∧ R x w' :=
  callX_of_semF Try.func19 (by kernel_rfl) (by kernel_rfl) (sem_board_Board_All b R) h


/-- (*canter/board.Board).All$1 -/
def W_board_Board_All_c1 (yield : Fv) (c0 : Pt) (R : Rs.T [] → WP) : WP :=
  ld [.ptr] c0 fun (x1 : Option Pt) =>
  ite' x1.isNone (
  R ()) <|
  ld [.ptr] c0 fun (x2 : Option Pt) =>
  deref x2 fun q3 =>
  ld [.sl] q3 fun (x4 : Sl) =>
  loop [.int .i64] (0:Int) fun J5 (y6 : Int) =>
  ite' (decide (y6 < ((x4.len : Nat) : Int))) (
  idx x4 y6 9 fun q7 =>
  ld K_u6b3 q7 fun (x8 : T_u6b3) =>
  new [.int .u64 (0:Int), .int .u64 (0:Int), .int .u64 (0:Int), .int .u64 (0:Int), .int .u64 (0:Int), .int .u64 (0:Int), .bool false, .bool false, .bool false] fun n9 =>
  st ⟨n9, 0⟩ (Ks.mk K_u6b3 x8) <|
  ld K_u6b3 ⟨n9, 0⟩ fun (x10 : T_u6b3) =>
  callv Try.prog yield [.agg (Ks.mk K_u6b3 x10)] [.lf .bool] fun (r11 : Bool) =>
  ite' (!r11) (
  R ()) <|
  J5 (IntKind.i64.wrap (y6 + (1:Int)))) <|
  R ()
theorem sem_board_Board_All_c1 (yield : Fv) (c0 : Pt) (R : Rs.T [] → WP) : Same (semF Try.prog Try.f49 (.s (.s .o (.s .o .o)) (.s .o (.b (.l [(12, .lf (.int .i64))] (.s .o (.s (.s .o .o) (.s (.b (.s .o (.s .o (.s .o .o)))) .o))))))) [.lf (.fn yield), .lf (.ptr (some c0))] [] R) (fun w => W_board_Board_All_c1 yield c0 R w) := ⟨by kernel_rfl⟩
theorem call_board_Board_All_c1 (yield : Fv) (c0 : Pt) (R : Rs.T [] → WP) (w : World) (h : W_board_Board_All_c1 yield c0 R w) :
    CallX Try.prog N_board_Board_All_c1 ([.lf (.fn yield), .lf (.ptr (some c0))].map V1.enc) w fun v w' => ∃ x, v = (retTV (Rs.mk [] x)).enc ∧ R x w' :=
  callX_of_semF Try.func49 (by kernel_rfl) (by kernel_rfl) (sem_board_Board_All_c1 yield c0 R) h


/-- (*canter/board.Board).End -/
def W_board_Board_End (b : Option Pt) (R : Rs.T [.lf (.int .u64)] → WP) : WP :=
  ite' b.isNone (
  R (0:Int)) <|
  deref b fun q1 =>
  ld [.int .u64] ⟨q1.b, q1.o + 1⟩ fun (x2 : Int) =>
  R x2
theorem sem_board_Board_End (b : Option Pt) (R : Rs.T [.lf (.int .u64)] → WP) : Same (semF Try.prog Try.f16 (.s .o (.s (.s .o (.s (.s .o .o) .o)) (.s .o .o))) [.lf (.ptr b)] [.lf (.int .u64)] R) (fun w => W_board_Board_End b R w) := ⟨by kernel_rfl⟩
theorem call_board_Board_End (b : Option Pt) (R : Rs.T [.lf (.int .u64)] → WP) (w : World) (h : W_board_Board_End b R w) :
    CallX Try.prog N_board_Board_End ([.lf (.ptr b)].map V1.enc) w fun v w' => ∃ x, v = (retTV (Rs.mk [.lf (.int .u64)] x)).enc ∧ R x w' :=
  callX_of_semF Try.func16 (by kernel_rfl) (by kernel_rfl) (sem_board_Board_End b R) h


/-- (*canter/board.Board).Flight -/
def W_board_Board_Flight (n0 : Nat) (b : Option Pt) (R : Rs.T [.lf (.int .u64)] → WP) : WP :=
  new [.int .u64 (0:Int)] fun n1 =>
  st ⟨n1, 0⟩ [.int .u64 (0:Int)] <|
  call Try.prog N_board_Board_All [.lf (.ptr b)] [.lf .fn] fun (r2 : Fv) =>
  rangeF Try.prog r2 [.agg K_u6b3] (fun (v3 : T_u6b3) mid4 next5 jump6 =>
  new [.int .u64 (0:Int), .int .u64 (0:Int), .int .u64 (0:Int), .int .u64 (0:Int), .int .u64 (0:Int), .int .u64 (0:Int), .bool false, .bool false, .bool false] fun n7 =>
  st ⟨n7, 0⟩ (Ks.mk K_u6b3 v3) <|
  mid4 <|
  ld K_u6b3 ⟨n7, 0⟩ fun (x8 : T_u6b3) =>
  call Try.prog N_board_flying [.agg (Ks.mk K_u6b3 x8)] [.lf .bool] fun (r9 : Bool) =>
  ite' r9 (
  ld [.int .u64] ⟨n1, 0⟩ fun (x10 : Int) =>
  ld [.int .u64] ⟨n7, 1⟩ fun (x11 : Int) =>
  ld [.int .u64] ⟨n7, 0⟩ fun (x12 : Int) =>
  st ⟨n1, 0⟩ [.int .u64 (IntKind.u64.wrap (x10 + (IntKind.u64.wrap (x11 - x12))))] <|
  next5) <|
  next5) fun i13 => isBy 0 i13 (ld [.int .u64] ⟨n1, 0⟩ fun (x14 : Int) =>
  leave n0 <| R x14) <|
  wno
theorem sem_board_Board_Flight (b : Option Pt) (R : Rs.T [.lf (.int .u64)] → WP) : Same (semF Try.prog Try.f17 (.s .o (.s .o (.s (.s .o (.b (.r [.agg K_u6b3] .o (.b (.s .o (.s .o .o)))))) (.s .o .o)))) [.lf (.ptr b)] [.lf (.int .u64)] R) (fun w => W_board_Board_Flight w.heap.size b R w) := ⟨by kernel_rfl⟩
theorem call_board_Board_Flight (b : Option Pt) (R : Rs.T [.lf (.int .u64)] → WP) (w : World) (h : W_board_Board_Flight w.heap.size b R w) :
    CallX Try.prog N_board_Board_Flight ([.lf (.ptr b)].map V1.enc) w fun v w' => ∃ x, v = (retTV (Rs.mk [.lf (.int .u64)] x)).enc ∧ R x w' :=
  callX_of_semF Try.func17 (by kernel_rfl) (by kernel_rfl) (sem_board_Board_Flight b R) h


/-- (*canter/board.Board).Lose -/
def W_board_Board_Lose (b : Option Pt) (R : Rs.T [.lf (.int .u64)] → WP) : WP :=
  ite' b.isNone (
  R (0:Int)) <|
  deref b fun q1 =>
  ld [.sl] q1 fun (x2 : Sl) =>
  loop [.int .u64, .int .i64] ((0:Int), (0:Int)) fun J3 (y4 : Int × Int) =>
  ite' (decide (y4.2 < ((x2.len : Nat) : Int))) (
  idx x2 y4.2 9 fun q5 =>
  ld K_u6b3 q5 fun (x6 : T_u6b3) =>
  new [.int .u64 (0:Int), .int .u64 (0:Int), .int .u64 (0:Int), .int .u64 (0:Int), .int .u64 (0:Int), .int .u64 (0:Int), .bool false, .bool false, .bool false] fun n7 =>
  st ⟨n7, 0⟩ (Ks.mk K_u6b3 x6) <|
  ld K_u6b3 ⟨n7, 0⟩ fun (x8 : T_u6b3) =>
  call Try.prog N_board_flying [.agg (Ks.mk K_u6b3 x8)] [.lf .bool] fun (r9 : Bool) =>
  ite' r9 (
  deref b fun q10 =>
  ld [.sl] q10 fun (x11 : Sl) =>
  idx x11 y4.2 9 fun q12 =>
  st ⟨q12.b, q12.o + 8⟩ [.bool true] <|
  ld [.int .u64] ⟨n7, 1⟩ fun (x13 : Int) =>
  ld [.int .u64] ⟨n7, 0⟩ fun (x14 : Int) =>
  J3 ((IntKind.u64.wrap (y4.1 + (IntKind.u64.wrap (x13 - x14)))), (IntKind.i64.wrap (y4.2 + (1:Int))))) <|
  J3 (y4.1, (IntKind.i64.wrap (y4.2 + (1:Int))))) <|
  R y4.1
theorem sem_board_Board_Lose (b : Option Pt) (R : Rs.T [.lf (.int .u64)] → WP) : Same (semF Try.prog Try.f44 (.s .o (.s (.s .o (.s (.s .o .o) .o)) (.s .o (.s (.s .o (.b (.l [(3, .lf (.int .u64)), (13, .lf (.int .i64))] (.s .o (.s (.s .o .o) (.s (.b (.s .o (.s .o (.s (.s .o .o) .o)))) .o)))))) (.s .o .o))))) [.lf (.ptr b)] [.lf (.int .u64)] R) (fun w => W_board_Board_Lose b R w) := ⟨by kernel_rfl⟩
theorem call_board_Board_Lose (b : Option Pt) (R : Rs.T [.lf (.int .u64)] → WP) (w : World) (h : W_board_Board_Lose b R w) :
    CallX Try.prog N_board_Board_Lose ([.lf (.ptr b)].map V1.enc) w fun v w' => ∃ x, v = (retTV (Rs.mk [.lf (.int .u64)] x)).enc ∧ R x w' :=
  callX_of_semF Try.func44 (by kernel_rfl) (by kernel_rfl) (sem_board_Board_Lose b R) h


/-- (*canter/board.Board).Lost -/
def W_board_Board_Lost (b : Option Pt) (R : Rs.T [.agg [.int .u64, .int .u64], .lf .bool] → WP) : WP :=
  new [.int .u64 (0:Int), .int .u64 (0:Int)] fun n1 =>
  call Try.prog N_board_Board_lost [.lf (.ptr b)] [.lf (.int .i64)] fun (r2 : Int) =>
  ite' (decide (r2 < (0:Int))) (
  st ⟨n1, 0⟩ [.int .u64 (0:Int), .int .u64 (0:Int)] <|
  ld [.int .u64, .int .u64] ⟨n1, 0⟩ fun (x3 : Int × Int) =>
  R (x3, false)) <|
  drw <|
  deref b fun q4 =>
  deref b fun q5 =>
  ld [.sl] q4 fun (x6 : Sl) =>
  ld [.sl] q5 fun (x7 : Sl) =>
  idx x6 r2 9 fun q8 =>
  idx x7 r2 9 fun q9 =>
  ld [.int .u64] q8 fun (x10 : Int) =>
  ld [.int .u64] ⟨q9.b, q9.o + 1⟩ fun (x11 : Int) =>
  st ⟨n1, 0⟩ [.int .u64 x10, .int .u64 x11] <|
  ld [.int .u64, .int .u64] ⟨n1, 0⟩ fun (x12 : Int × Int) =>
  R (x12, true)
theorem sem_board_Board_Lost (b : Option Pt) (R : Rs.T [.agg [.int .u64, .int .u64], .lf .bool] → WP) : Same (semF Try.prog Try.f39 (.s .o (.s .o (.s (.s .o (.s (.s .o .o) .o)) (.s (.d (.f 0 [0] (.f 4 [4] (.f 8 [0] (.f 12 [4] (.f 1 [10] (.f 9 [18] (.f 2 [11] (.f 10 [19] (.f 3 [12] (.f 11 [20] (.f 5 [13, 14] (.f 13 [21, 22] (.f 6 [15] (.f 14 [23] (.f 7 [16] (.f 15 [24] (.f 16 [17, 25] (.w 17 [2, 26] (.w 18 [] .fin)))))))))))))))))))) .o)))) [.lf (.ptr b)] [.agg [.int .u64, .int .u64], .lf .bool] R) (fun w => W_board_Board_Lost b R w) := ⟨by kernel_rfl⟩
theorem call_board_Board_Lost (b : Option Pt) (R : Rs.T [.agg [.int .u64, .int .u64], .lf .bool] → WP) (w : World) (h : W_board_Board_Lost b R w) :
    CallX Try.prog N_board_Board_Lost ([.lf (.ptr b)].map V1.enc) w fun v w' => ∃ x, v = (retTV (Rs.mk [.agg [.int .u64, .int .u64], .lf .bool] x)).enc ∧ R x w' :=
  callX_of_semF Try.func39 (by kernel_rfl) (by kernel_rfl) (sem_board_Board_Lost b R) h


/-- (*canter/board.Board).Sent -/
def W_board_Board_Sent (b : Option Pt) (from' : Int) (to' : Int) (s : T_u4b) (R : Rs.T [.lf (.int .i64)] → WP) : WP :=
  new (Ks.mk K_u4b s) fun n1 =>
  ite' b.isNone (
  R (2:Int)) <|
  deref b fun q2 =>
  ld [.int .u64] ⟨q2.b, q2.o + 1⟩ fun (x3 : Int) =>
  ite' ((from' != x3) || (decide (to' ≤ from'))) (
  R (1:Int)) <|
  deref b fun q4 =>
  ld [.sl] q4 fun (x5 : Sl) =>
  ite' (decide (((x5.len : Nat) : Int) ≥ (4096:Int))) (
  R (5:Int)) <|
  drw <|
  ld K_u4b ⟨n1, 0⟩ fun (x6 : T_u4b) =>
  deref b fun q7 =>
  ld [.sl] q7 fun (x8 : Sl) =>
  new [.int .u64 from', .int .u64 to', .int .u64 x6.1, .int .u64 x6.2.1, .int .u64 x6.2.2.1, .int .u64 x6.2.2.2.1, .bool x6.2.2.2.2, .bool false, .bool false] fun n9 =>
  chk q7 (Ks.mk [.sl] x8) <|
  app 9 x8 ⟨some ⟨n9, 0⟩, 1, 1⟩ fun s10 =>
  deref b fun q11 =>
  st q11 [.sl s10] <|
  deref b fun q12 =>
  st ⟨q12.b, q12.o + 1⟩ [.int .u64 to'] <|
  R (0:Int)
theorem sem_board_Board_Sent (b : Option Pt) (from' : Int) (to' : Int) (s : T_u4b) (R : Rs.T [.lf (.int .i64)] → WP) : Same (semF Try.prog Try.f15 (.s .o (.s (.b (.s .o (.s (.s .o .o) (.s .o (.s (.s .o .o) (.s .o (.s (.s .o .o) .o))))))) (.s (.d (.f 0 [0] (.f 1 [0] (.f 5 [1] (.f 6 [2] (.f 7 [7] (.f 2 [32] (.f 8 [36, 37, 38] (.f 3 [33] (.f 4 [34] (.w 9 [39] (.w 10 [35, 40] (.f 11 [31] (.f 12 [42] (.w 13 [41, 43] .fin))))))))))))))) (.s .o (.s .o .o))))) [.lf (.ptr b), .lf (.int .u64 from'), .lf (.int .u64 to'), .agg (Ks.mk K_u4b s)] [.lf (.int .i64)] R) (fun w => W_board_Board_Sent b from' to' s R w) := ⟨by kernel_rfl⟩
theorem call_board_Board_Sent (b : Option Pt) (from' : Int) (to' : Int) (s : T_u4b) (R : Rs.T [.lf (.int .i64)] → WP) (w : World) (h : W_board_Board_Sent b from' to' s R w) :
    CallX Try.prog N_board_Board_Sent ([.lf (.ptr b), .lf (.int .u64 from'), .lf (.int .u64 to'), .agg (Ks.mk K_u4b s)].map V1.enc) w fun v w' => ∃ x, v = (retTV (Rs.mk [.lf (.int .i64)] x)).enc ∧ R x w' :=
  callX_of_semF Try.func15 (by kernel_rfl) (by kernel_rfl) (sem_board_Board_Sent b from' to' s R) h


/-- (*canter/board.Board).lost -/
def W_board_Board_lost (n0 : Nat) (b : Option Pt) (R : Rs.T [.lf (.int .i64)] → WP) : WP :=
  new [.int .i64 (0:Int)] fun n1 =>
  new [.int .i64 (0:Int)] fun n2 =>
  st ⟨n2, 0⟩ [.int .i64 (0:Int)] <|
  call Try.prog N_board_Board_All [.lf (.ptr b)] [.lf .fn] fun (r3 : Fv) =>
  rangeF Try.prog r3 [.agg K_u6b3] (fun (v4 : T_u6b3) mid5 next6 jump7 =>
  new [.int .u64 (0:Int), .int .u64 (0:Int), .int .u64 (0:Int), .int .u64 (0:Int), .int .u64 (0:Int), .int .u64 (0:Int), .bool false, .bool false, .bool false] fun n8 =>
  st ⟨n8, 0⟩ (Ks.mk K_u6b3 v4) <|
  mid5 <|
  ld [.bool] ⟨n8, 8⟩ fun (x9 : Bool) =>
  ite' x9 (
  ld [.int .i64] ⟨n2, 0⟩ fun (x10 : Int) =>
  st ⟨n1, 0⟩ [.int .i64 x10] <|
  jump7 1) <|
  ld [.int .i64] ⟨n2, 0⟩ fun (x11 : Int) =>
  st ⟨n2, 0⟩ [.int .i64 (IntKind.i64.wrap (x11 + (1:Int)))] <|
  next6) fun i12 => isBy 0 i12 (st ⟨n1, 0⟩ [.int .i64 (-1:Int)] <|
  ld [.int .i64] ⟨n1, 0⟩ fun (x13 : Int) =>
  leave n0 <| R x13) <|
  isBy 1 i12 (ld [.int .i64] ⟨n1, 0⟩ fun (x14 : Int) =>
  leave n0 <| R x14) <|
  wno
theorem sem_board_Board_lost (b : Option Pt) (R : Rs.T [.lf (.int .i64)] → WP) : Same (semF Try.prog Try.f63 (.s .o (.s .o (.s (.s .o (.b (.r [.agg K_u6b3] .o (.b (.s (.s .o (.s (.s .o .o) .o)) .o))))) (.s .o .o)))) [.lf (.ptr b)] [.lf (.int .i64)] R) (fun w => W_board_Board_lost w.heap.size b R w) := ⟨by kernel_rfl⟩
theorem call_board_Board_lost (b : Option Pt) (R : Rs.T [.lf (.int .i64)] → WP) (w : World) (h : W_board_Board_lost w.heap.size b R w) :
    CallX Try.prog N_board_Board_lost ([.lf (.ptr b)].map V1.enc) w fun v w' => ∃ x, v = (retTV (Rs.mk [.lf (.int .i64)] x)).enc ∧ R x w' :=
  callX_of_semF Try.func63 (by kernel_rfl) (by kernel_rfl) (sem_board_Board_lost b R) h


/-- (*canter/board.Board).may -/
def W_board_Board_may (b : Option Pt) (upto : Int) (sacks : Sl) (R : Rs.T [.lf .bool] → WP) : WP :=
  new [.ptr b] fun n1 =>
  ld [.ptr] ⟨n1, 0⟩ fun (x2 : Option Pt) =>
  deref x2 fun q3 =>
  ld [.int .u64] ⟨q3.b, q3.o + 1⟩ fun (x4 : Int) =>
  ite' (decide (upto ≤ x4)) (
  call Try.prog N_slices_ContainsFunc_sapiRangeapiRange [.lf (.sl sacks), .lf (.fn (.mk (.func N_board_Board_may_c1) [] [V1.enc (.lf (.ptr (some ⟨n1, 0⟩)))]))] [.lf .bool] fun (r5 : Bool) =>
  R (!r5)) <|
  R false
theorem sem_board_Board_may (b : Option Pt) (upto : Int) (sacks : Sl) (R : Rs.T [.lf .bool] → WP) : Same (semF Try.prog Try.f50 (.s .o (.s .o .o)) [.lf (.ptr b), .lf (.int .u64 upto), .lf (.sl sacks)] [.lf .bool] R) (fun w => W_board_Board_may b upto sacks R w) := ⟨by kernel_rfl⟩
theorem call_board_Board_may (b : Option Pt) (upto : Int) (sacks : Sl) (R : Rs.T [.lf .bool] → WP) (w : World) (h : W_board_Board_may b upto sacks R w) :
    CallX Try.prog N_board_Board_may ([.lf (.ptr b), .lf (.int .u64 upto), .lf (.sl sacks)].map V1.enc) w fun v w' => ∃ x, v = (retTV (Rs.mk [.lf .bool] x)).enc ∧ R x w' :=
  callX_of_semF Try.func50 (by kernel_rfl) (by kernel_rfl) (sem_board_Board_may b upto sacks R) h


/-- (*canter/board.Board).may$1 -/
def W_board_Board_may_c1 (r : Int × Int) (c0 : Pt) (R : Rs.T [.lf .bool] → WP) : WP :=
  new (Ks.mk [.int .u64, .int .u64] r) fun n1 =>
  drw <|
  ld [.ptr] c0 fun (x2 : Option Pt) =>
  ld [.int .u64] ⟨n1, 1⟩ fun (x3 : Int) =>
  deref x2 fun q4 =>
  ld [.int .u64] ⟨q4.b, q4.o + 1⟩ fun (x5 : Int) =>
  ite' (decide (x3 > x5)) (
  R true) <|
  ld [.int .u64] ⟨n1, 0⟩ fun (x6 : Int) =>
  ld [.int .u64] ⟨n1, 1⟩ fun (x7 : Int) =>
  R (decide (x6 ≥ x7))
theorem sem_board_Board_may_c1 (r : Int × Int) (c0 : Pt) (R : Rs.T [.lf .bool] → WP) : Same (semF Try.prog Try.f71 (.s .o (.s (.d (.f 0 [2] (.f 2 [1] (.f 1 [4] (.f 3 [6] (.f 4 [7] (.f 5 [8] (.f 6 [5, 9] (.f 7 [10] (.f 8 [2, 11] (.f 10 [2, 11] (.f 9 [11, 12] (.f 11 [11, 14] (.f 12 [11, 13, 15] (.f 13 [11, 16] (.w 14 [17] .fin)))))))))))))))) .o)) [.agg (Ks.mk [.int .u64, .int .u64] r), .lf (.ptr (some c0))] [.lf .bool] R) (fun w => W_board_Board_may_c1 r c0 R w) := ⟨by kernel_rfl⟩
theorem call_board_Board_may_c1 (r : Int × Int) (c0 : Pt) (R : Rs.T [.lf .bool] → WP) (w : World) (h : W_board_Board_may_c1 r c0 R w) :
    CallX Try.prog N_board_Board_may_c1 ([.agg (Ks.mk [.int .u64, .int .u64] r), .lf (.ptr (some c0))].map V1.enc) w fun v w' => ∃ x, v = (retTV (Rs.mk [.lf .bool] x)).enc ∧ R x w' :=
  callX_of_semF Try.func71 (by kernel_rfl) (by kernel_rfl) (sem_board_Board_may_c1 r c0 R) h


/-- (*canter/board.Board).passed -/
def W_board_Board_passed (b : Option Pt) (R : Rs.T [.lf (.int .u64)] → WP) : WP :=
  deref b fun q1 =>
  ld [.sl] q1 fun (x2 : Sl) =>
  loop K_ui2 ((0:Int), (0:Int), (IntKind.i64.wrap (((x2.len : Nat) : Int) - (1:Int)))) fun J3 (y4 : T_ui2) =>
  ite' (decide (y4.2.2 ≥ (0:Int))) (
  deref b fun q5 =>
  ld [.sl] q5 fun (x6 : Sl) =>
  idx x6 y4.2.2 9 fun q7 =>
  join [.int .i64] (fun J8 =>
  deref (some q7) fun q10 =>
  ld [.bool] ⟨q10.b, q10.o + 7⟩ fun (x11 : Bool) =>
  ite' x11 (
  J8 (IntKind.i64.wrap (y4.2.1 + (1:Int)))) <|
  J8 y4.2.1) fun (y9 : Int) =>
  deref (some q7) fun q12 =>
  ld K_u6b3 q12 fun (x13 : T_u6b3) =>
  call Try.prog N_board_flying [.agg (Ks.mk K_u6b3 x13)] [.lf .bool] fun (r14 : Bool) =>
  ite' (r14 && (decide (y9 ≥ (3:Int)))) (
  deref (some q7) fun q15 =>
  st ⟨q15.b, q15.o + 8⟩ [.bool true] <|
  drw <|
  deref (some q7) fun q16 =>
  deref (some q7) fun q17 =>
  ld [.int .u64] ⟨q16.b, q16.o + 1⟩ fun (x18 : Int) =>
  ld [.int .u64] q17 fun (x19 : Int) =>
  J3 ((IntKind.u64.wrap (y4.1 + (IntKind.u64.wrap (x18 - x19)))), y9, (IntKind.i64.wrap (y4.2.2 - (1:Int))))) <|
  J3 (y4.1, y9, (IntKind.i64.wrap (y4.2.2 - (1:Int))))) <|
  R y4.1
theorem sem_board_Board_passed (b : Option Pt) (R : Rs.T [.lf (.int .u64)] → WP) : Same (semF Try.prog Try.f52 (.s .o (.s .o (.s (.s .o (.b (.l [(3, .lf (.int .u64)), (4, .lf (.int .i64)), (5, .lf (.int .i64))] (.s (.s .o (.s .o .o)) (.s (.b (.s .o (.j [(4, .lf (.int .i64))] (.s .o (.s .o .o)) (.s .o (.s (.s .o (.d (.f 0 [3] (.f 1 [6] (.f 5 [6] (.f 2 [41] (.f 6 [45] (.f 3 [42] (.f 7 [46] (.f 4 [43] (.f 8 [47] (.f 9 [44, 48] (.f 10 [40, 49] (.w 11 [50] .fin)))))))))))))) .o))))) .o))))) (.s .o .o)))) [.lf (.ptr b)] [.lf (.int .u64)] R) (fun w => W_board_Board_passed b R w) := ⟨by kernel_rfl⟩
theorem call_board_Board_passed (b : Option Pt) (R : Rs.T [.lf (.int .u64)] → WP) (w : World) (h : W_board_Board_passed b R w) :
    CallX Try.prog N_board_Board_passed ([.lf (.ptr b)].map V1.enc) w fun v w' => ∃ x, v = (retTV (Rs.mk [.lf (.int .u64)] x)).enc ∧ R x w' :=
  callX_of_semF Try.func52 (by kernel_rfl) (by kernel_rfl) (sem_board_Board_passed b R) h


/-- canter/board.New -/
def W_board_New  (R : Rs.T [.lf .ptr] → WP) : WP :=
  new [.sl ⟨none, 0, 0⟩, .int .u64 (0:Int)] fun n1 =>
  R (some ⟨n1, 0⟩)
theorem sem_board_New  (R : Rs.T [.lf .ptr] → WP) : Same (semF Try.prog Try.f13 (.s .o (.s .o .o)) [] [.lf .ptr] R) (fun w => W_board_New  R w) := ⟨by kernel_rfl⟩
theorem call_board_New  (R : Rs.T [.lf .ptr] → WP) (w : World) (h : W_board_New  R w) :
    CallX Try.prog N_board_New ([].map V1.enc) w fun v w' => ∃ x, v = (retTV (Rs.mk [.lf .ptr] x)).enc ∧ R x w' :=
  callX_of_semF Try.func13 (by kernel_rfl) (by kernel_rfl) (sem_board_New  R) h


/-- canter/board.flying -/
def W_board_flying (p : T_u6b3) (R : Rs.T [.lf .bool] → WP) : WP :=
  new (Ks.mk K_u6b3 p) fun n1 =>
  ld [.bool] ⟨n1, 7⟩ fun (x2 : Bool) =>
  ite' (!x2) (
  ld [.bool] ⟨n1, 8⟩ fun (x3 : Bool) =>
  R (!x3)) <|
  R false
theorem sem_board_flying (p : T_u6b3) (R : Rs.T [.lf .bool] → WP) : Same (semF Try.prog Try.f47 (.s .o (.s .o .o)) [.agg (Ks.mk K_u6b3 p)] [.lf .bool] R) (fun w => W_board_flying p R w) := ⟨by kernel_rfl⟩
theorem call_board_flying (p : T_u6b3) (R : Rs.T [.lf .bool] → WP) (w : World) (h : W_board_flying p R w) :
    CallX Try.prog N_board_flying ([.agg (Ks.mk K_u6b3 p)].map V1.enc) w fun v w' => ∃ x, v = (retTV (Rs.mk [.lf .bool] x)).enc ∧ R x w' :=
  callX_of_semF Try.func47 (by kernel_rfl) (by kernel_rfl) (sem_board_flying p R) h


/-- canter/board.holds -/
def W_board_holds (sacks : Sl) (p : T_u6b3) (R : Rs.T [.lf .bool] → WP) : WP :=
  new (Ks.mk K_u6b3 p) fun n1 =>
  call Try.prog N_slices_ContainsFunc_sapiRangeapiRange [.lf (.sl sacks), .lf (.fn (.mk (.func N_board_holds_c1) [] [V1.enc (.lf (.ptr (some ⟨n1, 0⟩)))]))] [.lf .bool] fun (r2 : Bool) =>
  R r2
theorem sem_board_holds (sacks : Sl) (p : T_u6b3) (R : Rs.T [.lf .bool] → WP) : Same (semF Try.prog Try.f51 (.s .o (.s .o .o)) [.lf (.sl sacks), .agg (Ks.mk K_u6b3 p)] [.lf .bool] R) (fun w => W_board_holds sacks p R w) := ⟨by kernel_rfl⟩
theorem call_board_holds (sacks : Sl) (p : T_u6b3) (R : Rs.T [.lf .bool] → WP) (w : World) (h : W_board_holds sacks p R w) :
    CallX Try.prog N_board_holds ([.lf (.sl sacks), .agg (Ks.mk K_u6b3 p)].map V1.enc) w fun v w' => ∃ x, v = (retTV (Rs.mk [.lf .bool] x)).enc ∧ R x w' :=
  callX_of_semF Try.func51 (by kernel_rfl) (by kernel_rfl) (sem_board_holds sacks p R) h


/-- canter/board.holds$1 -/
def W_board_holds_c1 (r : Int × Int) (c0 : Pt) (R : Rs.T [.lf .bool] → WP) : WP :=
  new (Ks.mk [.int .u64, .int .u64] r) fun n1 =>
  ld [.int .u64] ⟨n1, 0⟩ fun (x2 : Int) =>
  ld [.int .u64] c0 fun (x3 : Int) =>
  ite' (decide (x2 ≤ x3)) (
  ld [.int .u64] ⟨n1, 1⟩ fun (x4 : Int) =>
  ld [.int .u64] ⟨c0.b, c0.o + 1⟩ fun (x5 : Int) =>
  R (decide (x4 ≥ x5))) <|
  R false
theorem sem_board_holds_c1 (r : Int × Int) (c0 : Pt) (R : Rs.T [.lf .bool] → WP) : Same (semF Try.prog Try.f72 (.s .o (.s .o .o)) [.agg (Ks.mk [.int .u64, .int .u64] r), .lf (.ptr (some c0))] [.lf .bool] R) (fun w => W_board_holds_c1 r c0 R w) := ⟨by kernel_rfl⟩
theorem call_board_holds_c1 (r : Int × Int) (c0 : Pt) (R : Rs.T [.lf .bool] → WP) (w : World) (h : W_board_holds_c1 r c0 R w) :
    CallX Try.prog N_board_holds_c1 ([.agg (Ks.mk [.int .u64, .int .u64] r), .lf (.ptr (some c0))].map V1.enc) w fun v w' => ∃ x, v = (retTV (Rs.mk [.lf .bool] x)).enc ∧ R x w' :=
  callX_of_semF Try.func72 (by kernel_rfl) (by kernel_rfl) (sem_board_holds_c1 r c0 R) h


/-- canter/canterhelp.All[canter/api.Piece] -/
def W_canterhelp_All_apiPiece (f : Fv) (most : Int) (R : Rs.T [.lf .sl] → WP) : WP :=
  new [.int .i64 most] fun n1 =>
  new [.sl ⟨none, 0, 0⟩] fun n2 =>
  ite' (isNilF f) (
  R ⟨none, 0, 0⟩) <|
  callv Try.prog f [.lf (.fn (.mk (.func N_canterhelp_All_apiPiece_c1) [] [V1.enc (.lf (.ptr (some ⟨n2, 0⟩))), V1.enc (.lf (.ptr (some ⟨n1, 0⟩)))]))] [] fun (r3 : Unit) =>
  ld [.sl] ⟨n2, 0⟩ fun (x4 : Sl) =>
  R x4
theorem sem_canterhelp_All_apiPiece (f : Fv) (most : Int) (R : Rs.T [.lf .sl] → WP) : Same (semF Try.prog Try.f18 (.s .o (.s .o (.s (.s .o (.s (.s .o .o) .o)) (.s .o (.s .o .o))))) [.lf (.fn f), .lf (.int .i64 most)] [.lf .sl] R) (fun w => W_canterhelp_All_apiPiece f most R w) := ⟨by kernel_rfl⟩
theorem call_canterhelp_All_apiPiece (f : Fv) (most : Int) (R : Rs.T [.lf .sl] → WP) (w : World) (h : W_canterhelp_All_apiPiece f most R w) :
    CallX Try.prog N_canterhelp_All_apiPiece ([.lf (.fn f), .lf (.int .i64 most)].map V1.enc) w fun v w' => ∃ x, v = (retTV (Rs.mk [.lf .sl] x)).enc ∧ R x w' :=
  callX_of_semF Try.func18 (by kernel_rfl) (by kernel_rfl) (sem_canterhelp_All_apiPiece f most R) h


/-- canter/canterhelp.All[canter/api.Piece]$1 -/
def W_canterhelp_All_apiPiece_c1 (x : T_u6b3) (c0 : Pt) (c1 : Pt) (R : Rs.T [.lf .bool] → WP) : WP :=
  new (Ks.mk K_u6b3 x) fun n1 =>
  ld [.sl] c0 fun (x2 : Sl) =>
  ld K_u6b3 ⟨n1, 0⟩ fun (x3 : T_u6b3) =>
  new [.int .u64 x3.1, .int .u64 x3.2.1, .int .u64 x3.2.2.1, .int .u64 x3.2.2.2.1, .int .u64 x3.2.2.2.2.1, .int .u64 x3.2.2.2.2.2.1, .bool x3.2.2.2.2.2.2.1, .bool x3.2.2.2.2.2.2.2.1, .bool x3.2.2.2.2.2.2.2.2] fun n4 =>
  app 9 x2 ⟨some ⟨n4, 0⟩, 1, 1⟩ fun s5 =>
  st c0 [.sl s5] <|
  ld [.sl] c0 fun (x6 : Sl) =>
  ld [.int .i64] c1 fun (x7 : Int) =>
  R (decide (((x6.len : Nat) : Int) < x7))
theorem sem_canterhelp_All_apiPiece_c1 (x : T_u6b3) (c0 : Pt) (c1 : Pt) (R : Rs.T [.lf .bool] → WP) : Same (semF Try.prog Try.f48 (.s .o (.s .o (.s .o .o))) [.agg (Ks.mk K_u6b3 x), .lf (.ptr (some c0)), .lf (.ptr (some c1))] [.lf .bool] R) (fun w => W_canterhelp_All_apiPiece_c1 x c0 c1 R w) := ⟨by kernel_rfl⟩
theorem call_canterhelp_All_apiPiece_c1 (x : T_u6b3) (c0 : Pt) (c1 : Pt) (R : Rs.T [.lf .bool] → WP) (w : World) (h : W_canterhelp_All_apiPiece_c1 x c0 c1 R w) :
    CallX Try.prog N_canterhelp_All_apiPiece_c1 ([.agg (Ks.mk K_u6b3 x), .lf (.ptr (some c0)), .lf (.ptr (some c1))].map V1.enc) w fun v w' => ∃ x, v = (retTV (Rs.mk [.lf .bool] x)).enc ∧ R x w' :=
  callX_of_semF Try.func48 (by kernel_rfl) (by kernel_rfl) (sem_canterhelp_All_apiPiece_c1 x c0 c1 R) h


/-- canter/canterhelp.Kept[canter/api.Range] -/
def W_canterhelp_Kept_apiRange (out : Sl) (l : Sl) (fill : Int × Int) (R : Rs.T [.lf .bool] → WP) : WP :=
  new (Ks.mk [.int .u64, .int .u64] fill) fun n1 =>
  call Try.prog N_canterhelp_Plain_apiRange [.lf (.sl out), .lf (.sl l)] [.lf .bool] fun (r2 : Bool) =>
  ite' ((!r2) || (decide (((out.cp : Nat) : Int) < (IntKind.i64.wrap (((l.len : Nat) : Int) + (3:Int)))))) (
  R false) <|
  slc out none (some (IntKind.i64.wrap (((l.len : Nat) : Int) + (3:Int)))) none 2 fun s3 =>
  loop [.int .i64] ((l.len : Nat) : Int) fun J4 (y5 : Int) =>
  ite' (decide (y5 < ((s3.len : Nat) : Int))) (
  drw <|
  ld [.int .u64, .int .u64] ⟨n1, 0⟩ fun (x6 : Int × Int) =>
  idx s3 y5 2 fun q7 =>
  ld [.int .u64, .int .u64] q7 fun (x8 : Int × Int) =>
  ite' (!((x8.1 == x6.1) && (x8.2 == x6.2))) (
  R false) <|
  J4 (IntKind.i64.wrap (y5 + (1:Int)))) <|
  R true
theorem sem_canterhelp_Kept_apiRange (out : Sl) (l : Sl) (fill : Int × Int) (R : Rs.T [.lf .bool] → WP) : Same (semF Try.prog Try.f42 (.s .o (.s (.s .o (.s (.s .o .o) .o)) (.s .o (.s (.s .o (.b (.l [(8, .lf (.int .i64))] (.s (.s .o (.s .o .o)) (.s (.b (.s (.d (.f 0 [7] (.f 1 [8] (.f 4 [5] (.f 2 [34, 35] (.f 3 [36] (.f 5 [37, 38] .fin))))))) (.s (.s .o .o) .o))) .o))))) (.s .o .o))))) [.lf (.sl out), .lf (.sl l), .agg (Ks.mk [.int .u64, .int .u64] fill)] [.lf .bool] R) (fun w => W_canterhelp_Kept_apiRange out l fill R w) := ⟨by kernel_rfl⟩
theorem call_canterhelp_Kept_apiRange (out : Sl) (l : Sl) (fill : Int × Int) (R : Rs.T [.lf .bool] → WP) (w : World) (h : W_canterhelp_Kept_apiRange out l fill R w) :
    CallX Try.prog N_canterhelp_Kept_apiRange ([.lf (.sl out), .lf (.sl l), .agg (Ks.mk [.int .u64, .int .u64] fill)].map V1.enc) w fun v w' => ∃ x, v = (retTV (Rs.mk [.lf .bool] x)).enc ∧ R x w' :=
  callX_of_semF Try.func42 (by kernel_rfl) (by kernel_rfl) (sem_canterhelp_Kept_apiRange out l fill R) h


/-- canter/canterhelp.Own[canter/api.Range] -/
def W_canterhelp_Own_apiRange (l : Sl) (fill : Int × Int) (R : Rs.T [.lf .sl] → WP) : WP :=
  new (Ks.mk [.int .u64, .int .u64] fill) fun n1 =>
  mk [.int .u64 (0:Int), .int .u64 (0:Int)] (0:Int) (IntKind.i64.wrap (((l.len : Nat) : Int) + (3:Int))) fun s2 =>
  app 2 s2 l fun s3 =>
  slc s3 none (some (IntKind.i64.wrap (((l.len : Nat) : Int) + (3:Int)))) none 2 fun s4 =>
  loop [.int .i64] ((l.len : Nat) : Int) fun J5 (y6 : Int) =>
  ite' (decide (y6 < ((s4.len : Nat) : Int))) (
  ld [.int .u64, .int .u64] ⟨n1, 0⟩ fun (x7 : Int × Int) =>
  idx s4 y6 2 fun q8 =>
  st q8 (Ks.mk [.int .u64, .int .u64] x7) <|
  J5 (IntKind.i64.wrap (y6 + (1:Int)))) <|
  R s3
theorem sem_canterhelp_Own_apiRange (l : Sl) (fill : Int × Int) (R : Rs.T [.lf .sl] → WP) : Same (semF Try.prog Try.f38 (.s .o (.s .o (.s .o (.s .o (.s (.s .o (.b (.l [(7, .lf (.int .i64))] (.s (.s .o (.s .o .o)) (.s (.b .o) .o))))) (.s .o .o)))))) [.lf (.sl l), .agg (Ks.mk [.int .u64, .int .u64] fill)] [.lf .sl] R) (fun w => W_canterhelp_Own_apiRange l fill R w) := ⟨by kernel_rfl⟩
theorem call_canterhelp_Own_apiRange (l : Sl) (fill : Int × Int) (R : Rs.T [.lf .sl] → WP) (w : World) (h : W_canterhelp_Own_apiRange l fill R w) :
    CallX Try.prog N_canterhelp_Own_apiRange ([.lf (.sl l), .agg (Ks.mk [.int .u64, .int .u64] fill)].map V1.enc) w fun v w' => ∃ x, v = (retTV (Rs.mk [.lf .sl] x)).enc ∧ R x w' :=
  callX_of_semF Try.func38 (by kernel_rfl) (by kernel_rfl) (sem_canterhelp_Own_apiRange l fill R) h


/-- canter/canterhelp.Plain[canter/api.Piece] -/
def W_canterhelp_Plain_apiPiece (a : Sl) (b : Sl) (R : Rs.T [.lf .bool] → WP) : WP :=
  call Try.prog N_canterhelp_Same_apiPiece [.lf (.sl a), .lf (.sl b), .lf (.fn (.mk (.func N_canterhelp_Plain_apiPiece_c1) [] []))] [.lf .bool] fun (r1 : Bool) =>
  R r1
theorem sem_canterhelp_Plain_apiPiece (a : Sl) (b : Sl) (R : Rs.T [.lf .bool] → WP) : Same (semF Try.prog Try.f21 (.s .o (.s .o .o)) [.lf (.sl a), .lf (.sl b)] [.lf .bool] R) (fun w => W_canterhelp_Plain_apiPiece a b R w) := ⟨by kernel_rfl⟩
theorem call_canterhelp_Plain_apiPiece (a : Sl) (b : Sl) (R : Rs.T [.lf .bool] → WP) (w : World) (h : W_canterhelp_Plain_apiPiece a b R w) :
    CallX Try.prog N_canterhelp_Plain_apiPiece ([.lf (.sl a), .lf (.sl b)].map V1.enc) w fun v w' => ∃ x, v = (retTV (Rs.mk [.lf .bool] x)).enc ∧ R x w' :=
  callX_of_semF Try.func21 (by kernel_rfl) (by kernel_rfl) (sem_canterhelp_Plain_apiPiece a b R) h


/-- canter/canterhelp.Plain[canter/api.Piece]$1 -/
def W_canterhelp_Plain_apiPiece_c1 (x : T_u6b3) (y : T_u6b3) (R : Rs.T [.lf .bool] → WP) : WP :=
  new (Ks.mk K_u6b3 x) fun n1 =>
  new (Ks.mk K_u6b3 y) fun n2 =>
  ld K_u6b3 ⟨n1, 0⟩ fun (x3 : T_u6b3) =>
  ld K_u6b3 ⟨n2, 0⟩ fun (x4 : T_u6b3) =>
  R ((x3.1 == x4.1) && ((x3.2.1 == x4.2.1) && (((x3.2.2.1 == x4.2.2.1) && ((x3.2.2.2.1 == x4.2.2.2.1) && ((x3.2.2.2.2.1 == x4.2.2.2.2.1) && ((x3.2.2.2.2.2.1 == x4.2.2.2.2.2.1) && (x3.2.2.2.2.2.2.1 == x4.2.2.2.2.2.2.1))))) && ((x3.2.2.2.2.2.2.2.1 == x4.2.2.2.2.2.2.2.1) && (x3.2.2.2.2.2.2.2.2 == x4.2.2.2.2.2.2.2.2)))))
theorem sem_canterhelp_Plain_apiPiece_c1 (x : T_u6b3) (y : T_u6b3) (R : Rs.T [.lf .bool] → WP) : Same (semF Try.prog Try.f54 (.s .o (.s .o .o)) [.agg (Ks.mk K_u6b3 x), .agg (Ks.mk K_u6b3 y)] [.lf .bool] R) (fun w => W_canterhelp_Plain_apiPiece_c1 x y R w) := ⟨by kernel_rfl⟩
theorem call_canterhelp_Plain_apiPiece_c1 (x : T_u6b3) (y : T_u6b3) (R : Rs.T [.lf .bool] → WP) (w : World) (h : W_canterhelp_Plain_apiPiece_c1 x y R w) :
    CallX Try.prog N_canterhelp_Plain_apiPiece_c1 ([.agg (Ks.mk K_u6b3 x), .agg (Ks.mk K_u6b3 y)].map V1.enc) w fun v w' => ∃ x, v = (retTV (Rs.mk [.lf .bool] x)).enc ∧ R x w' :=
  callX_of_semF Try.func54 (by kernel_rfl) (by kernel_rfl) (sem_canterhelp_Plain_apiPiece_c1 x y R) h


/-- canter/canterhelp.Plain[canter/api.Range] -/
def W_canterhelp_Plain_apiRange (a : Sl) (b : Sl) (R : Rs.T [.lf .bool] → WP) : WP :=
  call Try.prog N_canterhelp_Same_apiRange [.lf (.sl a), .lf (.sl b), .lf (.fn (.mk (.func N_canterhelp_Plain_apiRange_c1) [] []))] [.lf .bool] fun (r1 : Bool) =>
  R r1
theorem sem_canterhelp_Plain_apiRange (a : Sl) (b : Sl) (R : Rs.T [.lf .bool] → WP) : Same (semF Try.prog Try.f69 (.s .o (.s .o .o)) [.lf (.sl a), .lf (.sl b)] [.lf .bool] R) (fun w => W_canterhelp_Plain_apiRange a b R w) := ⟨by kernel_rfl⟩
theorem call_canterhelp_Plain_apiRange (a : Sl) (b : Sl) (R : Rs.T [.lf .bool] → WP) (w : World) (h : W_canterhelp_Plain_apiRange a b R w) :
    CallX Try.prog N_canterhelp_Plain_apiRange ([.lf (.sl a), .lf (.sl b)].map V1.enc) w fun v w' => ∃ x, v = (retTV (Rs.mk [.lf .bool] x)).enc ∧ R x w' :=
  callX_of_semF Try.func69 (by kernel_rfl) (by kernel_rfl) (sem_canterhelp_Plain_apiRange a b R) h


/-- canter/canterhelp.Plain[canter/api.Range]$1 -/
def W_canterhelp_Plain_apiRange_c1 (x : Int × Int) (y : Int × Int) (R : Rs.T [.lf .bool] → WP) : WP :=
  new (Ks.mk [.int .u64, .int .u64] x) fun n1 =>
  new (Ks.mk [.int .u64, .int .u64] y) fun n2 =>
  ld [.int .u64, .int .u64] ⟨n1, 0⟩ fun (x3 : Int × Int) =>
  ld [.int .u64, .int .u64] ⟨n2, 0⟩ fun (x4 : Int × Int) =>
  R ((x3.1 == x4.1) && (x3.2 == x4.2))
theorem sem_canterhelp_Plain_apiRange_c1 (x : Int × Int) (y : Int × Int) (R : Rs.T [.lf .bool] → WP) : Same (semF Try.prog Try.f78 (.s .o (.s .o .o)) [.agg (Ks.mk [.int .u64, .int .u64] x), .agg (Ks.mk [.int .u64, .int .u64] y)] [.lf .bool] R) (fun w => W_canterhelp_Plain_apiRange_c1 x y R w) := ⟨by kernel_rfl⟩
theorem call_canterhelp_Plain_apiRange_c1 (x : Int × Int) (y : Int × Int) (R : Rs.T [.lf .bool] → WP) (w : World) (h : W_canterhelp_Plain_apiRange_c1 x y R w) :
    CallX Try.prog N_canterhelp_Plain_apiRange_c1 ([.agg (Ks.mk [.int .u64, .int .u64] x), .agg (Ks.mk [.int .u64, .int .u64] y)].map V1.enc) w fun v w' => ∃ x, v = (retTV (Rs.mk [.lf .bool] x)).enc ∧ R x w' :=
  callX_of_semF Try.func78 (by kernel_rfl) (by kernel_rfl) (sem_canterhelp_Plain_apiRange_c1 x y R) h


/-- canter/canterhelp.Same[canter/api.Piece] -/
def W_canterhelp_Same_apiPiece (a : Sl) (b : Sl) (one : Fv) (R : Rs.T [.lf .bool] → WP) : WP :=
  ite' (((a.len : Nat) : Int) != ((b.len : Nat) : Int)) (
  R false) <|
  loop [.int .i64] (0:Int) fun J1 (y2 : Int) =>
  ite' (decide (y2 < ((a.len : Nat) : Int))) (
  drw <|
  idx a y2 9 fun q3 =>
  idx b y2 9 fun q4 =>
  ld K_u6b3 q3 fun (x5 : T_u6b3) =>
  ld K_u6b3 q4 fun (x6 : T_u6b3) =>
  callv Try.prog one [.agg (Ks.mk K_u6b3 x5), .agg (Ks.mk K_u6b3 x6)] [.lf .bool] fun (r7 : Bool) =>
  ite' (!r7) (
  R false) <|
  J1 (IntKind.i64.wrap (y2 + (1:Int)))) <|
  R true
theorem sem_canterhelp_Same_apiPiece (a : Sl) (b : Sl) (one : Fv) (R : Rs.T [.lf .bool] → WP) : Same (semF Try.prog Try.f53 (.s .o (.s (.s .o (.s (.s .o .o) .o)) (.s (.s .o (.b (.l [(7, .lf (.int .i64))] (.s (.s .o (.s .o .o)) (.s (.b (.s (.d (.f 0 [2] (.f 1 [0] (.f 2 [7] (.f 5 [1] (.f 6 [7] (.f 3 [20, 21] (.f 7 [24, 25] (.f 4 [22] (.f 8 [26] (.w 9 [19, 23, 27] (.f 10 [28] .fin)))))))))))) (.s (.s .o .o) .o))) .o))))) (.s .o .o)))) [.lf (.sl a), .lf (.sl b), .lf (.fn one)] [.lf .bool] R) (fun w => W_canterhelp_Same_apiPiece a b one R w) := ⟨by kernel_rfl⟩
theorem call_canterhelp_Same_apiPiece (a : Sl) (b : Sl) (one : Fv) (R : Rs.T [.lf .bool] → WP) (w : World) (h : W_canterhelp_Same_apiPiece a b one R w) :
    CallX Try.prog N_canterhelp_Same_apiPiece ([.lf (.sl a), .lf (.sl b), .lf (.fn one)].map V1.enc) w fun v w' => ∃ x, v = (retTV (Rs.mk [.lf .bool] x)).enc ∧ R x w' :=
  callX_of_semF Try.func53 (by kernel_rfl) (by kernel_rfl) (sem_canterhelp_Same_apiPiece a b one R) h


/-- canter/canterhelp.Same[canter/api.Range] -/
def W_canterhelp_Same_apiRange (a : Sl) (b : Sl) (one : Fv) (R : Rs.T [.lf .bool] → WP) : WP :=
  ite' (((a.len : Nat) : Int) != ((b.len : Nat) : Int)) (
  R false) <|
  loop [.int .i64] (0:Int) fun J1 (y2 : Int) =>
  ite' (decide (y2 < ((a.len : Nat) : Int))) (
  drw <|
  idx a y2 2 fun q3 =>
  idx b y2 2 fun q4 =>
  ld [.int .u64, .int .u64] q3 fun (x5 : Int × Int) =>
  ld [.int .u64, .int .u64] q4 fun (x6 : Int × Int) =>
  callv Try.prog one [.agg (Ks.mk [.int .u64, .int .u64] x5), .agg (Ks.mk [.int .u64, .int .u64] x6)] [.lf .bool] fun (r7 : Bool) =>
  ite' (!r7) (
  R false) <|
  J1 (IntKind.i64.wrap (y2 + (1:Int)))) <|
  R true
theorem sem_canterhelp_Same_apiRange (a : Sl) (b : Sl) (one : Fv) (R : Rs.T [.lf .bool] → WP) : Same (semF Try.prog Try.f77 (.s .o (.s (.s .o (.s (.s .o .o) .o)) (.s (.s .o (.b (.l [(7, .lf (.int .i64))] (.s (.s .o (.s .o .o)) (.s (.b (.s (.d (.f 0 [2] (.f 1 [0] (.f 2 [7] (.f 5 [1] (.f 6 [7] (.f 3 [20, 21] (.f 7 [24, 25] (.f 4 [22] (.f 8 [26] (.w 9 [19, 23, 27] (.f 10 [28] .fin)))))))))))) (.s (.s .o .o) .o))) .o))))) (.s .o .o)))) [.lf (.sl a), .lf (.sl b), .lf (.fn one)] [.lf .bool] R) (fun w => W_canterhelp_Same_apiRange a b one R w) := ⟨by kernel_rfl⟩
theorem call_canterhelp_Same_apiRange (a : Sl) (b : Sl) (one : Fv) (R : Rs.T [.lf .bool] → WP) (w : World) (h : W_canterhelp_Same_apiRange a b one R w) :
    CallX Try.prog N_canterhelp_Same_apiRange ([.lf (.sl a), .lf (.sl b), .lf (.fn one)].map V1.enc) w fun v w' => ∃ x, v = (retTV (Rs.mk [.lf .bool] x)).enc ∧ R x w' :=
  callX_of_semF Try.func77 (by kernel_rfl) (by kernel_rfl) (sem_canterhelp_Same_apiRange a b one R) h


/-- canter/canterlaw24.BoardPlays -/
def W_canterlaw24_BoardPlays (d : Sl) (R : Rs.T [.lf .bool] → WP) : WP :=
  call Try.prog N_board_New [] [.lf .ptr] fun (r1 : Option Pt) =>
  new [.sl ⟨none, 0, 0⟩, .int .u64 (0:Int)] fun n2 =>
  call Try.prog N_canterlaw24_awake [] [.lf .bool] fun (r3 : Bool) =>
  ite' ((!r3) || r1.isNone) (
  R false) <|
  loop [.int .i64] (0:Int) fun J4 (y5 : Int) =>
  ite' ((decide (y5 < ((d.len : Nat) : Int))) && (decide (y5 < (80:Int)))) (
  idx d y5 11 fun q6 =>
  ld [.sl] ⟨q6.b, q6.o + 4⟩ fun (x7 : Sl) =>
  ite' (decide (((x7.len : Nat) : Int) > (8:Int))) (
  R true) <|
  idx d y5 11 fun q8 =>
  ld K_i2u2su4b2 q8 fun (x9 : T_i2u2su4b2) =>
  new [.int .i64 (0:Int), .int .i64 (0:Int), .int .u64 (0:Int), .int .u64 (0:Int), .sl ⟨none, 0, 0⟩, .int .u64 (0:Int), .int .u64 (0:Int), .int .u64 (0:Int), .int .u64 (0:Int), .bool false, .bool false] fun n10 =>
  st ⟨n10, 0⟩ (Ks.mk K_i2u2su4b2 x9) <|
  idx d y5 11 fun q11 =>
  ld [.sl] ⟨q11.b, q11.o + 4⟩ fun (x12 : Sl) =>
  call Try.prog N_canterhelp_Own_apiRange [.lf (.sl x12), .agg [.int .u64 (71:Int), .int .u64 (0:Int)]] [.lf .sl] fun (r13 : Sl) =>
  st ⟨n10, 4⟩ [.sl r13] <|
  call Try.prog N_board_Board_Lost [.lf (.ptr r1)] [.agg [.int .u64, .int .u64], .lf .bool] fun (r14 : (Int × Int) × Bool) =>
  new [.int .u64 (0:Int), .int .u64 (0:Int)] fun n15 =>
  st ⟨n15, 0⟩ (Ks.mk [.int .u64, .int .u64] r14.1) <|
  call Try.prog N_canterref20_Board_Lost [.lf (.ptr (some ⟨n2, 0⟩))] [.agg [.int .u64, .int .u64], .lf .bool] fun (r16 : (Int × Int) × Bool) =>
  new [.int .u64 (0:Int), .int .u64 (0:Int)] fun n17 =>
  st ⟨n17, 0⟩ (Ks.mk [.int .u64, .int .u64] r16.1) <|
  join [.bool] (fun J18 =>
  drw <|
  ld K_i2u2su4b2 ⟨n10, 0⟩ fun (x20 : T_i2u2su4b2) =>
  call Try.prog N_canterlaw24_play [.lf (.ptr r1), .lf (.ptr (some ⟨n2, 0⟩)), .agg (Ks.mk K_i2u2su4b2 x20)] [.lf .bool] fun (r21 : Bool) =>
  ite' (!r21) (
  J18 true) <|
  ld [.sl] ⟨n10, 4⟩ fun (x22 : Sl) =>
  idx d y5 11 fun q23 =>
  ld [.sl] ⟨q23.b, q23.o + 4⟩ fun (x24 : Sl) =>
  call Try.prog N_canterhelp_Kept_apiRange [.lf (.sl x22), .lf (.sl x24), .agg [.int .u64 (71:Int), .int .u64 (0:Int)]] [.lf .bool] fun (r25 : Bool) =>
  ite' (!r25) (
  J18 true) <|
  ld [.int .u64, .int .u64] ⟨n15, 0⟩ fun (x26 : Int × Int) =>
  ld [.int .u64, .int .u64] ⟨n17, 0⟩ fun (x27 : Int × Int) =>
  ite' (!((x26.1 == x27.1) && (x26.2 == x27.2))) (
  J18 true) <|
  J18 (!(r14.2 == r16.2))) fun (y19 : Bool) =>
  ite' y19 (
  R false) <|
  join [.bool] (fun J28 =>
  drw <|
  call Try.prog N_board_Board_Flight [.lf (.ptr r1)] [.lf (.int .u64)] fun (r30 : Int) =>
  call Try.prog N_canterref20_Board_Flight [.lf (.ptr (some ⟨n2, 0⟩))] [.lf (.int .u64)] fun (r31 : Int) =>
  ite' (r30 != r31) (
  J28 true) <|
  deref (some ⟨n2, 0⟩) fun q32 =>
  ld [.int .u64] ⟨q32.b, q32.o + 1⟩ fun (x33 : Int) =>
  call Try.prog N_board_Board_End [.lf (.ptr r1)] [.lf (.int .u64)] fun (r34 : Int) =>
  chk ⟨q32.b, q32.o + 1⟩ (Ks.mk [.int .u64] x33) <|
  ite' (r34 != x33) (
  J28 true) <|
  deref (some ⟨n2, 0⟩) fun q35 =>
  ld [.sl] q35 fun (x36 : Sl) =>
  call Try.prog N_board_Board_All [.lf (.ptr r1)] [.lf .fn] fun (r37 : Fv) =>
  chk q35 (Ks.mk [.sl] x36) <|
  call Try.prog N_canterhelp_All_apiPiece [.lf (.fn r37), .lf (.int .i64 (200:Int))] [.lf .sl] fun (r38 : Sl) =>
  chk q35 (Ks.mk [.sl] x36) <|
  call Try.prog N_canterhelp_Plain_apiPiece [.lf (.sl r38), .lf (.sl x36)] [.lf .bool] fun (r39 : Bool) =>
  J28 (!r39)) fun (y29 : Bool) =>
  ite' y29 (
  R false) <|
  J4 (IntKind.i64.wrap (y5 + (1:Int)))) <|
  R true
theorem sem_canterlaw24_BoardPlays (d : Sl) (R : Rs.T [.lf .bool] → WP) : Same (semF Try.prog Try.f9 (.s .o (.s .o (.s (.s .o (.s (.s .o .o) .o)) (.s (.s .o (.b (.l [(5, .lf (.int .i64))] (.s (.s .o (.s .o .o)) (.s (.b (.s (.s .o (.s (.s .o .o) .o)) (.s .o (.s .o (.s .o (.s .o (.s (.j [(85, .lf .bool)] (.d (.f 0 [3] (.f 1 [4] (.f 2 [6] (.w 3 [59, 60, 61] (.f 4 [62] (.f 5 [63] (.f 6 [6, 64] (.f 8 [0, 64] (.f 9 [5, 64] (.f 13 [64] (.f 7 [64, 65] (.f 10 [64, 67, 68] (.f 11 [64, 69] (.f 12 [64, 70] (.w 14 [64, 66, 71, 72] (.f 15 [64, 73] (.f 16 [64, 74] (.f 17 [75] (.f 18 [7, 76] (.f 19 [9, 76] (.f 20 [76, 77, 78] (.f 21 [76, 79] (.f 22 [80] (.f 23 [8, 81] (.f 24 [10, 81] (.f 25 [81, 82, 83] (.f 26 [81, 84] .fin)))))))))))))))))))))))))))) (.s (.s .o .o) .o)) (.j [(110, .lf .bool)] (.d (.f 0 [3] (.f 2 [4] (.w 1 [86] (.w 3 [88] (.f 4 [87, 89] (.f 5 [90] (.f 6 [3, 91] (.f 8 [4, 91] (.f 9 [91, 94] (.f 10 [91, 95] (.f 11 [91, 96] (.w 7 [91, 92] (.f 12 [91, 93, 97] (.f 13 [91, 98] (.f 14 [99] (.f 15 [3, 100] (.f 18 [4, 100] (.f 19 [100, 104] (.f 20 [100, 105] (.f 21 [100, 106] (.w 16 [100, 101] (.w 17 [100, 102] (.w 22 [100, 103, 107] (.f 23 [100, 108] (.f 24 [100, 109] .fin)))))))))))))))))))))))))) (.s (.s .o .o) .o))))))))) .o))))) (.s .o .o))))) [.lf (.sl d)] [.lf .bool] R) (fun w => W_canterlaw24_BoardPlays d R w) := ⟨by kernel_rfl⟩
theorem call_canterlaw24_BoardPlays (d : Sl) (R : Rs.T [.lf .bool] → WP) (w : World) (h : W_canterlaw24_BoardPlays d R w) :
    CallX Try.prog N_canterlaw24_BoardPlays ([.lf (.sl d)].map V1.enc) w fun v w' => ∃ x, v = (retTV (Rs.mk [.lf .bool] x)).enc ∧ R x w' :=
  callX_of_semF Try.func9 (by kernel_rfl) (by kernel_rfl) (sem_canterlaw24_BoardPlays d R) h


/-- canter/canterlaw24.awake -/
def W_canterlaw24_awake  (R : Rs.T [.lf .bool] → WP) : WP :=
  call Try.prog N_board_New [] [.lf .ptr] fun (r1 : Option Pt) =>
  join [.bool] (fun J2 =>
  ite' r1.isNone (
  J2 true) <|
  call Try.prog N_board_Board_Sent [.lf (.ptr r1), .lf (.int .u64 (0:Int)), .lf (.int .u64 (10:Int)), .agg [.int .u64 (0:Int), .int .u64 (0:Int), .int .u64 (0:Int), .int .u64 (0:Int), .bool false]] [.lf (.int .i64)] fun (r4 : Int) =>
  ite' (r4 != (0:Int)) (
  J2 true) <|
  call Try.prog N_board_Board_Flight [.lf (.ptr r1)] [.lf (.int .u64)] fun (r5 : Int) =>
  J2 (r5 != (10:Int))) fun (y3 : Bool) =>
  ite' y3 (
  R false) <|
  call Try.prog N_board_Board_Ack [.lf (.ptr r1), .lf (.int .u64 (10:Int)), .lf (.sl ⟨none, 0, 0⟩)] [.lf .sl, .lf (.int .u64), .lf (.int .i64)] fun (r6 : Sl × Int × Int) =>
  ite' ((r6.2.2 == (0:Int)) && (((r6.1.len : Nat) : Int) == (1:Int))) (
  call Try.prog N_board_Board_Flight [.lf (.ptr r1)] [.lf (.int .u64)] fun (r7 : Int) =>
  ite' (r7 == (0:Int)) (
  call Try.prog N_board_Board_End [.lf (.ptr r1)] [.lf (.int .u64)] fun (r8 : Int) =>
  ite' (r8 == (10:Int)) (
  call Try.prog N_board_Board_All [.lf (.ptr r1)] [.lf .fn] fun (r9 : Fv) =>
  call Try.prog N_canterhelp_All_apiPiece [.lf (.fn r9), .lf (.int .i64 (9:Int))] [.lf .sl] fun (r10 : Sl) =>
  R (((r10.len : Nat) : Int) == (0:Int))) <|
  R false) <|
  R false) <|
  R false
theorem sem_canterlaw24_awake  (R : Rs.T [.lf .bool] → WP) : Same (semF Try.prog Try.f14 (.s .o (.s .o (.s (.j [(18, .lf .bool)] .o (.s (.s .o .o) .o)) (.s .o (.s .o .o))))) [] [.lf .bool] R) (fun w => W_canterlaw24_awake  R w) := ⟨by kernel_rfl⟩
theorem call_canterlaw24_awake  (R : Rs.T [.lf .bool] → WP) (w : World) (h : W_canterlaw24_awake  R w) :
    CallX Try.prog N_canterlaw24_awake ([].map V1.enc) w fun v w' => ∃ x, v = (retTV (Rs.mk [.lf .bool] x)).enc ∧ R x w' :=
  callX_of_semF Try.func14 (by kernel_rfl) (by kernel_rfl) (sem_canterlaw24_awake  R) h


/-- canter/canterlaw24.play -/
def W_canterlaw24_play (d : Option Pt) (o : Option Pt) (a : T_i2u2su4b2) (R : Rs.T [.lf .bool] → WP) : WP :=
  new (Ks.mk K_i2u2su4b2 a) fun n1 =>
  ld [.int .i64] ⟨n1, 0⟩ fun (x2 : Int) =>
  ite' (x2 == (1:Int)) (
  ld [.int .u64] ⟨n1, 2⟩ fun (x3 : Int) =>
  ld [.sl] ⟨n1, 4⟩ fun (x4 : Sl) =>
  call Try.prog N_board_Board_Ack [.lf (.ptr d), .lf (.int .u64 x3), .lf (.sl x4)] [.lf .sl, .lf (.int .u64), .lf (.int .i64)] fun (r5 : Sl × Int × Int) =>
  ld [.int .u64] ⟨n1, 2⟩ fun (x6 : Int) =>
  ld [.sl] ⟨n1, 4⟩ fun (x7 : Sl) =>
  call Try.prog N_canterref20_Board_Ack [.lf (.ptr o), .lf (.int .u64 x6), .lf (.sl x7)] [.lf .sl, .lf (.int .u64), .lf (.int .i64)] fun (r8 : Sl × Int × Int) =>
  call Try.prog N_canterhelp_Plain_apiPiece [.lf (.sl r5.1), .lf (.sl r8.1)] [.lf .bool] fun (r9 : Bool) =>
  R ((r9 && (r5.2.1 == r8.2.1)) && (r5.2.2 == r8.2.2))) <|
  ite' (x2 == (2:Int)) (
  call Try.prog N_board_Board_Lose [.lf (.ptr d)] [.lf (.int .u64)] fun (r10 : Int) =>
  call Try.prog N_canterref20_Board_Lose [.lf (.ptr o)] [.lf (.int .u64)] fun (r11 : Int) =>
  R (r10 == r11)) <|
  ite' (x2 == (3:Int)) (
  ld K_u4b ⟨n1, 5⟩ fun (x12 : T_u4b) =>
  call Try.prog N_board_Board_Again [.lf (.ptr d), .agg (Ks.mk K_u4b x12)] [.agg [.int .u64, .int .u64], .lf .bool] fun (r13 : (Int × Int) × Bool) =>
  new [.int .u64 (0:Int), .int .u64 (0:Int)] fun n14 =>
  st ⟨n14, 0⟩ (Ks.mk [.int .u64, .int .u64] r13.1) <|
  ld K_u4b ⟨n1, 5⟩ fun (x15 : T_u4b) =>
  call Try.prog N_canterref20_Board_Again [.lf (.ptr o), .agg (Ks.mk K_u4b x15)] [.agg [.int .u64, .int .u64], .lf .bool] fun (r16 : (Int × Int) × Bool) =>
  new [.int .u64 (0:Int), .int .u64 (0:Int)] fun n17 =>
  st ⟨n17, 0⟩ (Ks.mk [.int .u64, .int .u64] r16.1) <|
  ld [.int .u64, .int .u64] ⟨n14, 0⟩ fun (x18 : Int × Int) =>
  ld [.int .u64, .int .u64] ⟨n17, 0⟩ fun (x19 : Int × Int) =>
  R (((x18.1 == x19.1) && (x18.2 == x19.2)) && (r13.2 == r16.2))) <|
  drw <|
  deref o fun q20 =>
  deref o fun q21 =>
  ld [.int .i64] ⟨n1, 1⟩ fun (x22 : Int) =>
  ld [.int .u64] ⟨q20.b, q20.o + 1⟩ fun (x23 : Int) =>
  ld [.int .u64] ⟨q21.b, q21.o + 1⟩ fun (x24 : Int) =>
  chk ⟨q21.b, q21.o + 1⟩ (Ks.mk [.int .u64] x24) <|
  chk ⟨n1, 1⟩ (Ks.mk [.int .i64] x22) <|
  join [.int .u64, .int .u64] (fun J25 =>
  ld [.bool] ⟨n1, 10⟩ fun (x27 : Bool) =>
  ite' x27 (
  drw <|
  ld [.int .u64] ⟨n1, 3⟩ fun (x28 : Int) =>
  ld [.int .u64] ⟨n1, 2⟩ fun (x29 : Int) =>
  chk ⟨n1, 2⟩ (Ks.mk [.int .u64] x29) <|
  J25 (x28, x29)) <|
  J25 (x23, (IntKind.u64.wrap ((IntKind.u64.wrap (x24 + (1:Int))) + ((IntKind.u64.wrap x22).tmod (5000:Int)))))) fun (y26 : Int × Int) =>
  drw <|
  ld K_u4b ⟨n1, 5⟩ fun (x30 : T_u4b) =>
  ld K_u4b ⟨n1, 5⟩ fun (x31 : T_u4b) =>
  call Try.prog N_board_Board_Sent [.lf (.ptr d), .lf (.int .u64 y26.1), .lf (.int .u64 y26.2), .agg (Ks.mk K_u4b x30)] [.lf (.int .i64)] fun (r32 : Int) =>
  chk ⟨n1, 5⟩ (Ks.mk K_u4b x31) <|
  call Try.prog N_canterref20_Board_Sent [.lf (.ptr o), .lf (.int .u64 y26.1), .lf (.int .u64 y26.2), .agg (Ks.mk K_u4b x31)] [.lf (.int .i64)] fun (r33 : Int) =>
  R (r32 == r33)
theorem sem_canterlaw24_play (d : Option Pt) (o : Option Pt) (a : T_i2u2su4b2) (R : Rs.T [.lf .bool] → WP) : Same (semF Try.prog Try.f41 (.s .o (.s (.s .o (.b (.s .o (.s (.s .o (.s .o (.s .o .o))) (.s .o (.s (.s .o .o) (.s .o (.s (.s .o (.s .o (.s .o .o))) .o)))))))) (.s (.d (.f 0 [1] (.f 4 [1] (.f 9 [5] (.f 1 [87] (.f 5 [91] (.f 10 [96] (.f 2 [88] (.f 6 [92] (.f 11 [97] (.f 3 [89] (.f 7 [93] (.f 12 [98] (.f 8 [94] (.f 13 [95, 99] (.w 14 [90] (.w 15 [100] .fin))))))))))))))))) (.j [(17, .lf (.int .u64)), (18, .lf (.int .u64))] (.s .o (.s (.d (.f 0 [5] (.f 2 [5] (.f 1 [103] (.f 3 [105] (.w 4 [104] (.w 5 [106] .fin))))))) .o)) (.s (.d (.f 0 [0] (.f 1 [17] (.f 2 [18] (.f 3 [5] (.f 6 [1] (.f 7 [17] (.f 8 [18] (.f 9 [5] (.f 4 [110] (.f 10 [116] (.w 5 [107, 108, 109, 111] (.w 11 [113, 114, 115, 117] (.f 12 [112, 118] (.w 13 [119] .fin))))))))))))))) .o))))) [.lf (.ptr d), .lf (.ptr o), .agg (Ks.mk K_i2u2su4b2 a)] [.lf .bool] R) (fun w => W_canterlaw24_play d o a R w) := ⟨by kernel_rfl⟩
theorem call_canterlaw24_play (d : Option Pt) (o : Option Pt) (a : T_i2u2su4b2) (R : Rs.T [.lf .bool] → WP) (w : World) (h : W_canterlaw24_play d o a R w) :
    CallX Try.prog N_canterlaw24_play ([.lf (.ptr d), .lf (.ptr o), .agg (Ks.mk K_i2u2su4b2 a)].map V1.enc) w fun v w' => ∃ x, v = (retTV (Rs.mk [.lf .bool] x)).enc ∧ R x w' :=
  callX_of_semF Try.func41 (by kernel_rfl) (by kernel_rfl) (sem_canterlaw24_play d o a R) h


/-- (*canter/canterref20.Board).Ack -/
def W_canterref20_Board_Ack (d : Option Pt) (o : Int) (a : Sl) (R : Rs.T [.lf .sl, .lf (.int .u64), .lf (.int .i64)] → WP) : WP :=
  deref d fun q1 =>
  ld [.int .u64] ⟨q1.b, q1.o + 1⟩ fun (x2 : Int) =>
  loop [.bool, .int .i64] ((decide (o > x2)), (0:Int)) fun J3 (y4 : Bool × Int) =>
  ite' (decide (y4.2 < ((a.len : Nat) : Int))) (
  drw <|
  ite' y4.1 (
  J3 (true, (IntKind.i64.wrap (y4.2 + (1:Int))))) <|
  idx a y4.2 2 fun q5 =>
  deref d fun q6 =>
  ld [.int .u64] ⟨q5.b, q5.o + 1⟩ fun (x7 : Int) =>
  ld [.int .u64] ⟨q6.b, q6.o + 1⟩ fun (x8 : Int) =>
  ite' (decide (x7 > x8)) (
  J3 (true, (IntKind.i64.wrap (y4.2 + (1:Int))))) <|
  idx a y4.2 2 fun q9 =>
  idx a y4.2 2 fun q10 =>
  ld [.int .u64] q9 fun (x11 : Int) =>
  ld [.int .u64] ⟨q10.b, q10.o + 1⟩ fun (x12 : Int) =>
  J3 ((decide (x11 ≥ x12)), (IntKind.i64.wrap (y4.2 + (1:Int))))) <|
  ite' y4.1 (
  R (⟨none, 0, 0⟩, (0:Int), (11:Int))) <|
  loop K_s2i (⟨none, 0, 0⟩, ⟨none, 0, 0⟩, (0:Int)) fun J13 (y14 : T_s2i) =>
  deref d fun q15 =>
  ld [.sl] q15 fun (x16 : Sl) =>
  ite' (decide (y14.2.2 < ((x16.len : Nat) : Int))) (
  deref d fun q17 =>
  ld [.sl] q17 fun (x18 : Sl) =>
  idx x18 y14.2.2 9 fun q19 =>
  ld K_u6b3 q19 fun (x20 : T_u6b3) =>
  new [.int .u64 (0:Int), .int .u64 (0:Int), .int .u64 (0:Int), .int .u64 (0:Int), .int .u64 (0:Int), .int .u64 (0:Int), .bool false, .bool false, .bool false] fun n21 =>
  st ⟨n21, 0⟩ (Ks.mk K_u6b3 x20) <|
  join [.bool, .bool] (fun J22 =>
  drw <|
  ld [.int .u64] ⟨n21, 1⟩ fun (x24 : Int) =>
  ld [.bool] ⟨n21, 7⟩ fun (x25 : Bool) =>
  ite' (!x25) (
  ld K_u6b3 ⟨n21, 0⟩ fun (x26 : T_u6b3) =>
  call Try.prog N_canterref20_within [.agg (Ks.mk K_u6b3 x26), .lf (.sl a)] [.lf .bool] fun (r27 : Bool) =>
  chk ⟨n21, 1⟩ (Ks.mk [.int .u64] x24) <|
  J22 ((decide (x24 ≤ o)), r27)) <|
  J22 ((decide (x24 ≤ o)), false)) fun (y23 : Bool × Bool) =>
  join [.sl] (fun J28 =>
  join [.bool] (fun J30 =>
  ite' y23.1 (
  ld [.bool] ⟨n21, 7⟩ fun (x32 : Bool) =>
  J30 ((!x32) || ((!y23.1) && y23.2))) <|
  J30 ((!y23.1) && y23.2)) fun (y31 : Bool) =>
  ite' y31 (
  ld K_u6b3 ⟨n21, 0⟩ fun (x33 : T_u6b3) =>
  new [.int .u64 x33.1, .int .u64 x33.2.1, .int .u64 x33.2.2.1, .int .u64 x33.2.2.2.1, .int .u64 x33.2.2.2.2.1, .int .u64 x33.2.2.2.2.2.1, .bool x33.2.2.2.2.2.2.1, .bool x33.2.2.2.2.2.2.2.1, .bool x33.2.2.2.2.2.2.2.2] fun n34 =>
  app 9 y14.2.1 ⟨some ⟨n34, 0⟩, 1, 1⟩ fun s35 =>
  J28 s35) <|
  J28 y14.2.1) fun (y29 : Sl) =>
  ite' y23.1 (
  J13 (y14.1, y29, (IntKind.i64.wrap (y14.2.2 + (1:Int))))) <|
  join [] (fun J36 =>
  ite' y23.2 (
  st ⟨n21, 7⟩ [.bool true] <|
  st ⟨n21, 8⟩ [.bool false] <|
  J36 ()) <|
  J36 ()) fun (y37 : Unit) =>
  ld K_u6b3 ⟨n21, 0⟩ fun (x38 : T_u6b3) =>
  new [.int .u64 x38.1, .int .u64 x38.2.1, .int .u64 x38.2.2.1, .int .u64 x38.2.2.2.1, .int .u64 x38.2.2.2.2.1, .int .u64 x38.2.2.2.2.2.1, .bool x38.2.2.2.2.2.2.1, .bool x38.2.2.2.2.2.2.2.1, .bool x38.2.2.2.2.2.2.2.2] fun n39 =>
  app 9 y14.1 ⟨some ⟨n39, 0⟩, 1, 1⟩ fun s40 =>
  J13 (s40, y29, (IntKind.i64.wrap (y14.2.2 + (1:Int))))) <|
  loop K_ui2 ((0:Int), (0:Int), (IntKind.i64.wrap (((y14.1.len : Nat) : Int) - (1:Int)))) fun J41 (y42 : T_ui2) =>
  ite' (decide (y42.2.2 ≥ (0:Int))) (
  idx y14.1 y42.2.2 9 fun q43 =>
  deref (some q43) fun q44 =>
  ld [.bool] ⟨q44.b, q44.o + 7⟩ fun (x45 : Bool) =>
  ite' x45 (
  J41 (y42.1, (IntKind.i64.wrap (y42.2.1 + (1:Int))), (IntKind.i64.wrap (y42.2.2 - (1:Int))))) <|
  deref (some q43) fun q46 =>
  ld [.bool] ⟨q46.b, q46.o + 8⟩ fun (x47 : Bool) =>
  ite' ((!x47) && (decide (y42.2.1 ≥ (3:Int)))) (
  deref (some q43) fun q48 =>
  st ⟨q48.b, q48.o + 8⟩ [.bool true] <|
  drw <|
  deref (some q43) fun q49 =>
  deref (some q43) fun q50 =>
  ld [.int .u64] ⟨q49.b, q49.o + 1⟩ fun (x51 : Int) =>
  ld [.int .u64] q50 fun (x52 : Int) =>
  J41 ((IntKind.u64.wrap ((IntKind.u64.wrap (y42.1 + x51)) - x52)), y42.2.1, (IntKind.i64.wrap (y42.2.2 - (1:Int))))) <|
  J41 (y42.1, y42.2.1, (IntKind.i64.wrap (y42.2.2 - (1:Int))))) <|
  deref d fun q53 =>
  st q53 [.sl y14.1] <|
  R (y14.2.1, y42.1, (0:Int))
theorem sem_canterref20_Board_Ack (d : Option Pt) (o : Int) (a : Sl) (R : Rs.T [.lf .sl, .lf (.int .u64), .lf (.int .i64)] → WP) : Same (semF Try.prog Try.f65 (.s .o (.s .o (.s (.s .o (.b (.l [(9, .lf .bool), (10, .lf (.int .i64))] (.s (.s .o (.s .o .o)) (.s (.b (.d (.f 0 [9] (.f 1 [33] (.f 2 [2, 34] (.f 3 [10, 34] (.f 7 [0, 34] (.f 4 [34, 35, 36] (.f 8 [34, 40] (.f 5 [34, 37] (.f 9 [34, 41] (.f 6 [34, 38] (.f 10 [34, 42] (.f 11 [34, 39, 43] (.f 12 [34, 44] (.f 13 [45] (.f 14 [2, 46] (.f 15 [10, 46] (.f 19 [2, 46] (.f 20 [10, 46] (.f 16 [46, 47, 48] (.f 21 [46, 52, 53] (.f 17 [46, 49] (.f 22 [46, 54] (.f 18 [46, 50] (.f 23 [46, 55] (.f 24 [46, 51, 56] (.f 25 [46, 57] (.w 26 [58] .fin))))))))))))))))))))))))))))) .o))))) (.s (.s .o (.s (.s .o .o) .o)) (.s .o (.s (.s .o (.b (.l [(11, .lf .sl), (12, .lf .sl), (13, .lf (.int .i64))] (.s (.s .o (.s .o .o)) (.s (.b (.s .o (.j [(15, .lf .bool), (16, .lf .bool)] (.d (.f 0 [14] (.f 2 [1] (.f 4 [14] (.f 1 [76] (.f 5 [80] (.f 3 [77, 78] (.f 6 [81] (.f 7 [82] (.f 8 [14, 83] (.f 9 [2, 83] (.w 10 [83, 84, 85] (.f 11 [83, 86] (.w 12 [79] (.w 13 [87] .fin))))))))))))))) (.j [(12, .lf .sl)] (.j [(100, .lf .bool)] .o (.s .o .o)) (.s (.s .o (.s .o .o)) (.j [] (.s .o (.s .o .o)) .o)))))) .o))))) (.s .o (.s (.s .o (.b (.l [(17, .lf (.int .u64)), (18, .lf (.int .i64)), (19, .lf (.int .i64))] (.s (.s .o (.s .o .o)) (.s (.b (.s .o (.b (.s .o (.s .o (.s .o (.s (.s .o (.d (.f 0 [17] (.f 1 [20] (.f 6 [20] (.f 2 [144] (.f 7 [149] (.f 3 [145] (.f 8 [150] (.f 4 [146] (.f 9 [151] (.f 5 [143, 147] (.f 10 [148, 152] (.w 11 [153] .fin)))))))))))))) .o))))))) .o))))) (.s .o (.s .o .o)))))))))) [.lf (.ptr d), .lf (.int .u64 o), .lf (.sl a)] [.lf .sl, .lf (.int .u64), .lf (.int .i64)] R) (fun w => W_canterref20_Board_Ack d o a R w) := ⟨by kernel_rfl⟩
theorem call_canterref20_Board_Ack (d : Option Pt) (o : Int) (a : Sl) (R : Rs.T [.lf .sl, .lf (.int .u64), .lf (.int .i64)] → WP) (w : World) (h : W_canterref20_Board_Ack d o a R w) :
    CallX Try.prog N_canterref20_Board_Ack ([.lf (.ptr d), .lf (.int .u64 o), .lf (.sl a)].map V1.enc) w fun v w' => ∃ x, v = (retTV (Rs.mk [.lf .sl, .lf (.int .u64), .lf (.int .i64)] x)).enc ∧ R x w' :=
  callX_of_semF Try.func65 (by kernel_rfl) (by kernel_rfl) (sem_canterref20_Board_Ack d o a R) h


/-- (*canter/canterref20.Board).Again -/
def W_canterref20_Board_Again (b : Option Pt) (s : T_u4b) (R : Rs.T [.agg [.int .u64, .int .u64], .lf .bool] → WP) : WP :=
  new (Ks.mk K_u4b s) fun n1 =>
  new [.int .u64 (0:Int), .int .u64 (0:Int)] fun n2 =>
  call Try.prog N_canterref20_Board_lost [.lf (.ptr b)] [.lf (.int .i64)] fun (r3 : Int) =>
  ite' (decide (r3 < (0:Int))) (
  st ⟨n2, 0⟩ [.int .u64 (0:Int), .int .u64 (0:Int)] <|
  ld [.int .u64, .int .u64] ⟨n2, 0⟩ fun (x4 : Int × Int) =>
  R (x4, false)) <|
  deref b fun q5 =>
  ld [.sl] q5 fun (x6 : Sl) =>
  app 9 ⟨none, 0, 0⟩ x6 fun s7 =>
  drw <|
  ld K_u4b ⟨n1, 0⟩ fun (x8 : T_u4b) =>
  idx s7 r3 9 fun q9 =>
  st ⟨q9.b, q9.o + 8⟩ [.bool false] <|
  chk ⟨n1, 0⟩ (Ks.mk K_u4b x8) <|
  idx s7 r3 9 fun q10 =>
  st ⟨q10.b, q10.o + 2⟩ (Ks.mk K_u4b x8) <|
  deref b fun q11 =>
  st q11 [.sl s7] <|
  drw <|
  idx s7 r3 9 fun q12 =>
  idx s7 r3 9 fun q13 =>
  ld [.int .u64] q12 fun (x14 : Int) =>
  ld [.int .u64] ⟨q13.b, q13.o + 1⟩ fun (x15 : Int) =>
  st ⟨n2, 0⟩ [.int .u64 x14, .int .u64 x15] <|
  ld [.int .u64, .int .u64] ⟨n2, 0⟩ fun (x16 : Int × Int) =>
  R (x16, true)
theorem sem_canterref20_Board_Again (b : Option Pt) (s : T_u4b) (R : Rs.T [.agg [.int .u64, .int .u64], .lf .bool] → WP) : Same (semF Try.prog Try.f67 (.s .o (.s .o (.s (.s .o (.s (.s .o .o) .o)) (.s .o (.s (.d (.f 0 [7] (.f 1 [6] (.f 2 [7] (.f 3 [6] (.f 4 [3] (.f 5 [18, 19] (.f 6 [23] (.w 7 [24] (.f 8 [20, 21] (.f 9 [25] (.w 10 [22, 26] .fin)))))))))))) (.s .o (.s (.d (.f 0 [7] (.f 1 [6] (.f 5 [7] (.f 6 [6] (.f 2 [31, 32] (.f 7 [36, 37] (.f 3 [33] (.f 8 [38] (.f 4 [34] (.f 9 [39] (.f 10 [35, 40] (.w 11 [4, 41] (.w 12 [] .fin)))))))))))))) .o))))))) [.lf (.ptr b), .agg (Ks.mk K_u4b s)] [.agg [.int .u64, .int .u64], .lf .bool] R) (fun w => W_canterref20_Board_Again b s R w) := ⟨by kernel_rfl⟩
theorem call_canterref20_Board_Again (b : Option Pt) (s : T_u4b) (R : Rs.T [.agg [.int .u64, .int .u64], .lf .bool] → WP) (w : World) (h : W_canterref20_Board_Again b s R w) :
    CallX Try.prog N_canterref20_Board_Again ([.lf (.ptr b), .agg (Ks.mk K_u4b s)].map V1.enc) w fun v w' => ∃ x, v = (retTV (Rs.mk [.agg [.int .u64, .int .u64], .lf .bool] x)).enc ∧ R x w' :=
  callX_of_semF Try.func67 (by kernel_rfl) (by kernel_rfl) (sem_canterref20_Board_Again b s R) h


/-- (*canter/canterref20.Board).Flight -/
def W_canterref20_Board_Flight (b : Option Pt) (R : Rs.T [.lf (.int .u64)] → WP) : WP :=
  loop [.int .u64, .int .i64] ((0:Int), (0:Int)) fun J1 (y2 : Int × Int) =>
  deref b fun q3 =>
  ld [.sl] q3 fun (x4 : Sl) =>
  ite' (decide (y2.2 < ((x4.len : Nat) : Int))) (
  join [.bool] (fun J5 =>
  deref b fun q7 =>
  ld [.sl] q7 fun (x8 : Sl) =>
  idx x8 y2.2 9 fun q9 =>
  ld [.bool] ⟨q9.b, q9.o + 7⟩ fun (x10 : Bool) =>
  ite' (!x10) (
  deref b fun q11 =>
  ld [.sl] q11 fun (x12 : Sl) =>
  idx x12 y2.2 9 fun q13 =>
  ld [.bool] ⟨q13.b, q13.o + 8⟩ fun (x14 : Bool) =>
  J5 (!x14)) <|
  J5 false) fun (y6 : Bool) =>
  ite' y6 (
  drw <|
  deref b fun q15 =>
  deref b fun q16 =>
  ld [.sl] q15 fun (x17 : Sl) =>
  ld [.sl] q16 fun (x18 : Sl) =>
  idx x17 y2.2 9 fun q19 =>
  idx x18 y2.2 9 fun q20 =>
  ld [.int .u64] ⟨q19.b, q19.o + 1⟩ fun (x21 : Int) =>
  ld [.int .u64] q20 fun (x22 : Int) =>
  J1 ((IntKind.u64.wrap ((IntKind.u64.wrap (y2.1 + x21)) - x22)), (IntKind.i64.wrap (y2.2 + (1:Int))))) <|
  J1 (y2.1, (IntKind.i64.wrap (y2.2 + (1:Int))))) <|
  R y2.1
theorem sem_canterref20_Board_Flight (b : Option Pt) (R : Rs.T [.lf (.int .u64)] → WP) : Same (semF Try.prog Try.f43 (.s .o (.s .o (.s (.s .o (.b (.l [(3, .lf (.int .u64)), (4, .lf (.int .i64))] (.s (.s .o (.s .o .o)) (.s (.b (.j [(33, .lf .bool)] .o (.s (.d (.f 0 [3] (.f 1 [0] (.f 5 [4] (.f 10 [0] (.f 14 [4] (.f 2 [35] (.f 11 [44] (.f 3 [36] (.f 12 [45] (.f 4 [37] (.f 13 [46] (.f 6 [38, 39] (.f 15 [47, 48] (.f 7 [40] (.f 16 [49] (.f 8 [41] (.f 17 [50] (.f 9 [34, 42] (.f 18 [43, 51] (.w 19 [52] .fin))))))))))))))))))))) .o))) .o))))) (.s .o .o)))) [.lf (.ptr b)] [.lf (.int .u64)] R) (fun w => W_canterref20_Board_Flight b R w) := ⟨by kernel_rfl⟩
theorem call_canterref20_Board_Flight (b : Option Pt) (R : Rs.T [.lf (.int .u64)] → WP) (w : World) (h : W_canterref20_Board_Flight b R w) :
    CallX Try.prog N_canterref20_Board_Flight ([.lf (.ptr b)].map V1.enc) w fun v w' => ∃ x, v = (retTV (Rs.mk [.lf (.int .u64)] x)).enc ∧ R x w' :=
  callX_of_semF Try.func43 (by kernel_rfl) (by kernel_rfl) (sem_canterref20_Board_Flight b R) h


/-- (*canter/canterref20.Board).Lose -/
def W_canterref20_Board_Lose (b : Option Pt) (R : Rs.T [.lf (.int .u64)] → WP) : WP :=
  call Try.prog N_canterref20_Board_Flight [.lf (.ptr b)] [.lf (.int .u64)] fun (r1 : Int) =>
  loop [.sl, .int .i64] (⟨none, 0, 0⟩, (0:Int)) fun J2 (y3 : Sl × Int) =>
  deref b fun q4 =>
  ld [.sl] q4 fun (x5 : Sl) =>
  ite' (decide (y3.2 < ((x5.len : Nat) : Int))) (
  deref b fun q6 =>
  ld [.sl] q6 fun (x7 : Sl) =>
  idx x7 y3.2 9 fun q8 =>
  ld K_u6b3 q8 fun (x9 : T_u6b3) =>
  new [.int .u64 (0:Int), .int .u64 (0:Int), .int .u64 (0:Int), .int .u64 (0:Int), .int .u64 (0:Int), .int .u64 (0:Int), .bool false, .bool false, .bool false] fun n10 =>
  st ⟨n10, 0⟩ (Ks.mk K_u6b3 x9) <|
  join [] (fun J11 =>
  ld [.bool] ⟨n10, 8⟩ fun (x13 : Bool) =>
  ite' x13 (
  st ⟨n10, 8⟩ [.bool true] <|
  J11 ()) <|
  ld [.bool] ⟨n10, 7⟩ fun (x14 : Bool) =>
  st ⟨n10, 8⟩ [.bool (!x14)] <|
  J11 ()) fun (y12 : Unit) =>
  ld K_u6b3 ⟨n10, 0⟩ fun (x15 : T_u6b3) =>
  new [.int .u64 x15.1, .int .u64 x15.2.1, .int .u64 x15.2.2.1, .int .u64 x15.2.2.2.1, .int .u64 x15.2.2.2.2.1, .int .u64 x15.2.2.2.2.2.1, .bool x15.2.2.2.2.2.2.1, .bool x15.2.2.2.2.2.2.2.1, .bool x15.2.2.2.2.2.2.2.2] fun n16 =>
  app 9 y3.1 ⟨some ⟨n16, 0⟩, 1, 1⟩ fun s17 =>
  J2 (s17, (IntKind.i64.wrap (y3.2 + (1:Int))))) <|
  deref b fun q18 =>
  st q18 [.sl y3.1] <|
  R r1
theorem sem_canterref20_Board_Lose (b : Option Pt) (R : Rs.T [.lf (.int .u64)] → WP) : Same (semF Try.prog Try.f66 (.s .o (.s .o (.s .o (.s (.s .o (.b (.l [(4, .lf .sl), (5, .lf (.int .i64))] (.s (.s .o (.s .o .o)) (.s (.b (.s .o (.j [] .o .o))) .o))))) (.s .o (.s .o .o)))))) [.lf (.ptr b)] [.lf (.int .u64)] R) (fun w => W_canterref20_Board_Lose b R w) := ⟨by kernel_rfl⟩
theorem call_canterref20_Board_Lose (b : Option Pt) (R : Rs.T [.lf (.int .u64)] → WP) (w : World) (h : W_canterref20_Board_Lose b R w) :
    CallX Try.prog N_canterref20_Board_Lose ([.lf (.ptr b)].map V1.enc) w fun v w' => ∃ x, v = (retTV (Rs.mk [.lf (.int .u64)] x)).enc ∧ R x w' :=
  callX_of_semF Try.func66 (by kernel_rfl) (by kernel_rfl) (sem_canterref20_Board_Lose b R) h


/-- (*canter/canterref20.Board).Lost -/
def W_canterref20_Board_Lost (b : Option Pt) (R : Rs.T [.agg [.int .u64, .int .u64], .lf .bool] → WP) : WP :=
  new [.int .u64 (0:Int), .int .u64 (0:Int)] fun n1 =>
  call Try.prog N_canterref20_Board_lost [.lf (.ptr b)] [.lf (.int .i64)] fun (r2 : Int) =>
  ite' (decide (r2 < (0:Int))) (
  st ⟨n1, 0⟩ [.int .u64 (0:Int), .int .u64 (0:Int)] <|
  ld [.int .u64, .int .u64] ⟨n1, 0⟩ fun (x3 : Int × Int) =>
  R (x3, false)) <|
  drw <|
  deref b fun q4 =>
  deref b fun q5 =>
  ld [.sl] q4 fun (x6 : Sl) =>
  ld [.sl] q5 fun (x7 : Sl) =>
  idx x6 r2 9 fun q8 =>
  idx x7 r2 9 fun q9 =>
  ld [.int .u64] q8 fun (x10 : Int) =>
  ld [.int .u64] ⟨q9.b, q9.o + 1⟩ fun (x11 : Int) =>
  st ⟨n1, 0⟩ [.int .u64 x10, .int .u64 x11] <|
  ld [.int .u64, .int .u64] ⟨n1, 0⟩ fun (x12 : Int × Int) =>
  R (x12, true)
theorem sem_canterref20_Board_Lost (b : Option Pt) (R : Rs.T [.agg [.int .u64, .int .u64], .lf .bool] → WP) : Same (semF Try.prog Try.f40 (.s .o (.s .o (.s (.s .o (.s (.s .o .o) .o)) (.s (.d (.f 0 [0] (.f 4 [4] (.f 8 [0] (.f 12 [4] (.f 1 [10] (.f 9 [18] (.f 2 [11] (.f 10 [19] (.f 3 [12] (.f 11 [20] (.f 5 [13, 14] (.f 13 [21, 22] (.f 6 [15] (.f 14 [23] (.f 7 [16] (.f 15 [24] (.f 16 [17, 25] (.w 17 [2, 26] (.w 18 [] .fin)))))))))))))))))))) .o)))) [.lf (.ptr b)] [.agg [.int .u64, .int .u64], .lf .bool] R) (fun w => W_canterref20_Board_Lost b R w) := ⟨by kernel_rfl⟩
theorem call_canterref20_Board_Lost (b : Option Pt) (R : Rs.T [.agg [.int .u64, .int .u64], .lf .bool] → WP) (w : World) (h : W_canterref20_Board_Lost b R w) :
    CallX Try.prog N_canterref20_Board_Lost ([.lf (.ptr b)].map V1.enc) w fun v w' => ∃ x, v = (retTV (Rs.mk [.agg [.int .u64, .int .u64], .lf .bool] x)).enc ∧ R x w' :=
  callX_of_semF Try.func40 (by kernel_rfl) (by kernel_rfl) (sem_canterref20_Board_Lost b R) h


/-- (*canter/canterref20.Board).Sent -/
def W_canterref20_Board_Sent (b : Option Pt) (from' : Int) (to' : Int) (s : T_u4b) (R : Rs.T [.lf (.int .i64)] → WP) : WP :=
  new (Ks.mk K_u4b s) fun n1 =>
  deref b fun q2 =>
  ld [.int .u64] ⟨q2.b, q2.o + 1⟩ fun (x3 : Int) =>
  ite' ((from' != x3) || (decide (to' ≤ from'))) (
  R (1:Int)) <|
  deref b fun q4 =>
  ld [.sl] q4 fun (x5 : Sl) =>
  ite' (decide (((x5.len : Nat) : Int) ≥ (4096:Int))) (
  R (5:Int)) <|
  drw <|
  ld K_u4b ⟨n1, 0⟩ fun (x6 : T_u4b) =>
  deref b fun q7 =>
  ld [.sl] q7 fun (x8 : Sl) =>
  both (
  app 9 ⟨none, 0, 0⟩ x8 fun s9 =>
  chk ⟨n1, 0⟩ (Ks.mk K_u4b x6) <|
  new [.int .u64 from', .int .u64 to', .int .u64 x6.1, .int .u64 x6.2.1, .int .u64 x6.2.2.1, .int .u64 x6.2.2.2.1, .bool x6.2.2.2.2, .bool false, .bool false] fun n10 =>
  chk q7 (Ks.mk [.sl] x8) <|
  app 9 s9 ⟨some ⟨n10, 0⟩, 1, 1⟩ fun s11 =>
  deref b fun q12 =>
  st q12 [.sl s11] <|
  deref b fun q13 =>
  st ⟨q13.b, q13.o + 1⟩ [.int .u64 to'] <|
  R (0:Int)) <|
  new [.int .u64 from', .int .u64 to', .int .u64 x6.1, .int .u64 x6.2.1, .int .u64 x6.2.2.1, .int .u64 x6.2.2.2.1, .bool x6.2.2.2.2, .bool false, .bool false] fun n14 =>
  chk q7 (Ks.mk [.sl] x8) <|
  app 9 ⟨none, 0, 0⟩ x8 fun s15 =>
  chk ⟨n1, 0⟩ (Ks.mk K_u4b x6) <|
  app 9 s15 ⟨some ⟨n14, 0⟩, 1, 1⟩ fun s16 =>
  deref b fun q17 =>
  st q17 [.sl s16] <|
  deref b fun q18 =>
  st ⟨q18.b, q18.o + 1⟩ [.int .u64 to'] <|
  R (0:Int)
theorem sem_canterref20_Board_Sent (b : Option Pt) (from' : Int) (to' : Int) (s : T_u4b) (R : Rs.T [.lf (.int .i64)] → WP) : Same (semF Try.prog Try.f68 (.s .o (.s (.s .o (.s (.s .o .o) .o)) (.s (.s .o (.s (.s .o .o) .o)) (.s (.d (.f 0 [0] (.f 1 [0] (.f 6 [1] (.f 7 [2] (.f 8 [7] (.f 2 [27] (.f 9 [32, 33, 34] (.f 3 [28] (.f 4 [29] (.wa 5 [30] (.w 10 [35] (.w 11 [31, 36] (.f 12 [26] (.f 13 [38] (.w 14 [37, 39] .fin))))) (.w 10 [35] (.w 5 [30] (.w 11 [31, 36] (.f 12 [26] (.f 13 [38] (.w 14 [37, 39] .fin))))))))))))))))) (.s .o (.s .o .o)))))) [.lf (.ptr b), .lf (.int .u64 from'), .lf (.int .u64 to'), .agg (Ks.mk K_u4b s)] [.lf (.int .i64)] R) (fun w => W_canterref20_Board_Sent b from' to' s R w) := ⟨by kernel_rfl⟩
theorem call_canterref20_Board_Sent (b : Option Pt) (from' : Int) (to' : Int) (s : T_u4b) (R : Rs.T [.lf (.int .i64)] → WP) (w : World) (h : W_canterref20_Board_Sent b from' to' s R w) :
    CallX Try.prog N_canterref20_Board_Sent ([.lf (.ptr b), .lf (.int .u64 from'), .lf (.int .u64 to'), .agg (Ks.mk K_u4b s)].map V1.enc) w fun v w' => ∃ x, v = (retTV (Rs.mk [.lf (.int .i64)] x)).enc ∧ R x w' :=
  callX_of_semF Try.func68 (by kernel_rfl) (by kernel_rfl) (sem_canterref20_Board_Sent b from' to' s R) h


/-- (*canter/canterref20.Board).lost -/
def W_canterref20_Board_lost (b : Option Pt) (R : Rs.T [.lf (.int .i64)] → WP) : WP :=
  loop [.int .i64] (0:Int) fun J1 (y2 : Int) =>
  deref b fun q3 =>
  ld [.sl] q3 fun (x4 : Sl) =>
  ite' (decide (y2 < ((x4.len : Nat) : Int))) (
  deref b fun q5 =>
  ld [.sl] q5 fun (x6 : Sl) =>
  idx x6 y2 9 fun q7 =>
  ld [.bool] ⟨q7.b, q7.o + 8⟩ fun (x8 : Bool) =>
  ite' x8 (
  R y2) <|
  J1 (IntKind.i64.wrap (y2 + (1:Int)))) <|
  R (-1:Int)
theorem sem_canterref20_Board_lost (b : Option Pt) (R : Rs.T [.lf (.int .i64)] → WP) : Same (semF Try.prog Try.f64 (.s .o (.s (.s .o (.b (.l [(3, .lf (.int .i64))] (.s (.s .o (.s .o .o)) (.s (.b (.s .o (.s (.s .o .o) .o))) .o))))) (.s .o .o))) [.lf (.ptr b)] [.lf (.int .i64)] R) (fun w => W_canterref20_Board_lost b R w) := ⟨by kernel_rfl⟩
theorem call_canterref20_Board_lost (b : Option Pt) (R : Rs.T [.lf (.int .i64)] → WP) (w : World) (h : W_canterref20_Board_lost b R w) :
    CallX Try.prog N_canterref20_Board_lost ([.lf (.ptr b)].map V1.enc) w fun v w' => ∃ x, v = (retTV (Rs.mk [.lf (.int .i64)] x)).enc ∧ R x w' :=
  callX_of_semF Try.func64 (by kernel_rfl) (by kernel_rfl) (sem_canterref20_Board_lost b R) h


/-- canter/canterref20.within -/
def W_canterref20_within (p : T_u6b3) (l : Sl) (R : Rs.T [.lf .bool] → WP) : WP :=
  new (Ks.mk K_u6b3 p) fun n1 =>
  loop [.int .i64] (0:Int) fun J2 (y3 : Int) =>
  ite' (decide (y3 < ((l.len : Nat) : Int))) (
  drw <|
  idx l y3 2 fun q4 =>
  ld [.int .u64] ⟨n1, 0⟩ fun (x5 : Int) =>
  ld [.int .u64] q4 fun (x6 : Int) =>
  ite' (decide (x6 ≤ x5)) (
  idx l y3 2 fun q7 =>
  ld [.int .u64] ⟨n1, 1⟩ fun (x8 : Int) =>
  ld [.int .u64] ⟨q7.b, q7.o + 1⟩ fun (x9 : Int) =>
  ite' (decide (x9 ≥ x8)) (
  R true) <|
  J2 (IntKind.i64.wrap (y3 + (1:Int)))) <|
  J2 (IntKind.i64.wrap (y3 + (1:Int)))) <|
  R false
theorem sem_canterref20_within (p : T_u6b3) (l : Sl) (R : Rs.T [.lf .bool] → WP) : Same (semF Try.prog Try.f76 (.s .o (.s (.s .o (.b (.l [(5, .lf (.int .i64))] (.s (.s .o (.s .o .o)) (.s (.b (.s (.d (.f 0 [1] (.f 1 [5] (.f 5 [2] (.f 2 [12, 13] (.f 6 [17] (.f 3 [14] (.f 4 [15] (.f 7 [16, 18] (.f 8 [19] (.f 9 [1, 20] (.f 10 [5, 20] (.f 14 [2, 20] (.f 11 [20, 21, 22] (.f 15 [20, 26] (.f 12 [20, 23] (.f 13 [20, 24] (.f 16 [20, 25, 27] (.f 17 [20, 28] .fin))))))))))))))))))) (.s (.s .o .o) .o))) .o))))) (.s .o .o))) [.agg (Ks.mk K_u6b3 p), .lf (.sl l)] [.lf .bool] R) (fun w => W_canterref20_within p l R w) := ⟨by kernel_rfl⟩
theorem call_canterref20_within (p : T_u6b3) (l : Sl) (R : Rs.T [.lf .bool] → WP) (w : World) (h : W_canterref20_within p l R w) :
    CallX Try.prog N_canterref20_within ([.agg (Ks.mk K_u6b3 p), .lf (.sl l)].map V1.enc) w fun v w' => ∃ x, v = (retTV (Rs.mk [.lf .bool] x)).enc ∧ R x w' :=
  callX_of_semF Try.func76 (by kernel_rfl) (by kernel_rfl) (sem_canterref20_within p l R) h


/-- slices.ContainsFunc[[]canter/api.Range,canter/api.Range] -/
def W_slices_ContainsFunc_sapiRangeapiRange (s : Sl) (f : Fv) (R : Rs.T [.lf .bool] → WP) : WP :=
  call Try.prog N_slices_IndexFunc_sapiRangeapiRange [.lf (.sl s), .lf (.fn f)] [.lf (.int .i64)] fun (r1 : Int) =>
  R (decide (r1 ≥ (0:Int)))
theorem sem_slices_ContainsFunc_sapiRangeapiRange (s : Sl) (f : Fv) (R : Rs.T [.lf .bool] → WP) : Same (semF Try.prog Try.f70 (.s .o (.s .o .o)) [.lf (.sl s), .lf (.fn f)] [.lf .bool] R) (fun w => W_slices_ContainsFunc_sapiRangeapiRange s f R w) := ⟨by kernel_rfl⟩
theorem call_slices_ContainsFunc_sapiRangeapiRange (s : Sl) (f : Fv) (R : Rs.T [.lf .bool] → WP) (w : World) (h : W_slices_ContainsFunc_sapiRangeapiRange s f R w) :
    CallX Try.prog N_slices_ContainsFunc_sapiRangeapiRange ([.lf (.sl s), .lf (.fn f)].map V1.enc) w fun v w' => ∃ x, v = (retTV (Rs.mk [.lf .bool] x)).enc ∧ R x w' :=
  callX_of_semF Try.func70 (by kernel_rfl) (by kernel_rfl) (sem_slices_ContainsFunc_sapiRangeapiRange s f R) h


/-- slices.IndexFunc[[]canter/api.Range,canter/api.Range] -/
def W_slices_IndexFunc_sapiRangeapiRange (s : Sl) (f : Fv) (R : Rs.T [.lf (.int .i64)] → WP) : WP :=
  loop [.int .i64] (0:Int) fun J1 (y2 : Int) =>
  ite' (decide (y2 < ((s.len : Nat) : Int))) (
  idx s y2 2 fun q3 =>
  ld [.int .u64, .int .u64] q3 fun (x4 : Int × Int) =>
  callv Try.prog f [.agg (Ks.mk [.int .u64, .int .u64] x4)] [.lf .bool] fun (r5 : Bool) =>
  ite' r5 (
  R y2) <|
  J1 (IntKind.i64.wrap (y2 + (1:Int)))) <|
  R (-1:Int)
theorem sem_slices_IndexFunc_sapiRangeapiRange (s : Sl) (f : Fv) (R : Rs.T [.lf (.int .i64)] → WP) : Same (semF Try.prog Try.f79 (.s .o (.s (.s .o (.b (.l [(8, .lf (.int .i64))] (.s .o (.s (.s .o .o) (.s (.b (.s .o (.s .o (.s (.s .o .o) .o)))) .o)))))) (.s .o .o))) [.lf (.sl s), .lf (.fn f)] [.lf (.int .i64)] R) (fun w => W_slices_IndexFunc_sapiRangeapiRange s f R w) := ⟨by kernel_rfl⟩
theorem call_slices_IndexFunc_sapiRangeapiRange (s : Sl) (f : Fv) (R : Rs.T [.lf (.int .i64)] → WP) (w : World) (h : W_slices_IndexFunc_sapiRangeapiRange s f R w) :
    CallX Try.prog N_slices_IndexFunc_sapiRangeapiRange ([.lf (.sl s), .lf (.fn f)].map V1.enc) w fun v w' => ∃ x, v = (retTV (Rs.mk [.lf (.int .i64)] x)).enc ∧ R x w' :=
  callX_of_semF Try.func79 (by kernel_rfl) (by kernel_rfl) (sem_slices_IndexFunc_sapiRangeapiRange s f R) h



end Go.X
