/- What each function of the program computes, as a weakest precondition, printed by program; the kernel sees that the code says so. -/
import Derived.Test.YteeabliibhedoaaK
import Derived.Test.YteeabliibhedoaaProg
set_option linter.unusedVariables false
namespace Go.X
open Go.Proofs
/-- (*canter/winmax.Max).Reset -/
def W_winmax_Max_Reset (m : Option Pt) (t : Int) (v : Int) (R : Rs.T [] → WP) : WP :=
  ite' m.isNone (
  R ()) <|
  deref m fun q1 =>
  ld [.int .u64] ⟨q1.b, q1.o + 7⟩ fun (x2 : Int) =>
  deref m fun q3 =>
  st ⟨q3.b, q3.o + 7⟩ [.int .u64 (if t > x2 then t else x2)] <|
  call Try.prog N_winmax_Max_all [.lf (.ptr m), .lf (.int .i64 (0:Int)), .agg [.int .u64 t, .int .u64 v]] [] fun (r4 : Unit) =>
  R ()
theorem sem_winmax_Max_Reset (m : Option Pt) (t : Int) (v : Int) (R : Rs.T [] → WP) : Same (semF Try.prog Try.f100 (.s (.s .o (.s .o .o)) (.s .o .o)) [.lf (.ptr m), .lf (.int .u64 t), .lf (.int .u64 v)] [] R) (fun w => W_winmax_Max_Reset m t v R w) := ⟨by kernel_rfl⟩
theorem call_winmax_Max_Reset (m : Option Pt) (t : Int) (v : Int) (R : Rs.T [] → WP) (w : World) (h : W_winmax_Max_Reset m t v R w) :
    CallX Try.prog N_winmax_Max_Reset ([.lf (.ptr m), .lf (.int .u64 t), .lf (.int .u64 v)].map V1.enc) w fun v w' => ∃ x, v = (retTV (Rs.mk [] x)).enc ∧ R x w' :=
  callX_of_semF Try.func100 (by kernel_rfl) (by kernel_rfl) (sem_winmax_Max_Reset m t v R) h


/-- (*canter/winmax.Max).Update -/
def W_winmax_Max_Update (d : Option Pt) (o : Int) (a : Int) (R : Rs.T [.lf (.int .u64)] → WP) : WP :=
  ite' d.isNone (
  R (0:Int)) <|
  deref d fun q1 =>
  ld [.int .u64] ⟨q1.b, q1.o + 7⟩ fun (x2 : Int) =>
  deref d fun q3 =>
  st ⟨q3.b, q3.o + 7⟩ [.int .u64 (if o > x2 then o else x2)] <|
  deref d fun q4 =>
  ld [.int .u64] ⟨q4.b, q4.o + 7⟩ fun (x5 : Int) =>
  new [.int .u64 (0:Int), .int .u64 (0:Int)] fun n6 =>
  st ⟨n6, 0⟩ [.int .u64 x5, .int .u64 a] <|
  join [.bool] (fun J7 =>
  drw <|
  deref d fun q9 =>
  req (0 ≤ (0:Int) ∧ (0:Int) < 3) <|
  ld [.int .u64] ⟨q9.b, q9.o + 1 + (0:Int).toNat * 2 + 1⟩ fun (x10 : Int) =>
  ite' (decide (a ≥ x10)) (
  J7 true) <|
  ld [.int .u64] ⟨n6, 0⟩ fun (x11 : Int) =>
  deref d fun q12 =>
  deref d fun q13 =>
  req (0 ≤ (2:Int) ∧ (2:Int) < 3) <|
  ld [.int .u64] q13 fun (x14 : Int) =>
  ld [.int .u64, .int .u64] ⟨q12.b, q12.o + 1 + (2:Int).toNat * 2⟩ fun (x15 : Int × Int) =>
  call Try.prog N_winmax_near [.lf (.int .u64 x11), .agg (Ks.mk [.int .u64, .int .u64] x15), .lf (.int .u64 x14)] [.lf .bool] fun (r16 : Bool) =>
  J7 (!r16)) fun (y8 : Bool) =>
  ite' y8 (
  ld [.int .u64] ⟨n6, 0⟩ fun (x17 : Int) =>
  call Try.prog N_winmax_Max_Reset [.lf (.ptr d), .lf (.int .u64 x17), .lf (.int .u64 a)] [] fun (r18 : Unit) =>
  R a) <|
  join [] (fun J19 =>
  loop [.int .i64] (0:Int) fun J21 (y22 : Int) =>
  ite' (decide (y22 < (3:Int))) (
  join [.bool] (fun J23 =>
  ite' (decide (y22 > (0:Int))) (
  deref d fun q25 =>
  req (0 ≤ y22 ∧ y22 < 3) <|
  ld [.int .u64] ⟨q25.b, q25.o + 1 + y22.toNat * 2 + 1⟩ fun (x26 : Int) =>
  J23 (decide (a ≥ x26))) <|
  J23 false) fun (y24 : Bool) =>
  ite' y24 (
  ld [.int .u64, .int .u64] ⟨n6, 0⟩ fun (x27 : Int × Int) =>
  call Try.prog N_winmax_Max_all [.lf (.ptr d), .lf (.int .i64 y22), .agg (Ks.mk [.int .u64, .int .u64] x27)] [] fun (r28 : Unit) =>
  J19 ()) <|
  J21 (IntKind.i64.wrap (y22 + (1:Int)))) <|
  J19 ()) fun (y20 : Unit) =>
  join [] (fun J29 =>
  drw <|
  ld [.int .u64] ⟨n6, 0⟩ fun (x31 : Int) =>
  deref d fun q32 =>
  deref d fun q33 =>
  req (0 ≤ (0:Int) ∧ (0:Int) < 3) <|
  ld [.int .u64] q33 fun (x34 : Int) =>
  ld [.int .u64, .int .u64] ⟨q32.b, q32.o + 1 + (0:Int).toNat * 2⟩ fun (x35 : Int × Int) =>
  call Try.prog N_winmax_near [.lf (.int .u64 x31), .agg (Ks.mk [.int .u64, .int .u64] x35), .lf (.int .u64 x34)] [.lf .bool] fun (r36 : Bool) =>
  ite' (!r36) (
  ld [.int .u64, .int .u64] ⟨n6, 0⟩ fun (x37 : Int × Int) =>
  call Try.prog N_winmax_Max_push [.lf (.ptr d), .agg (Ks.mk [.int .u64, .int .u64] x37)] [] fun (r38 : Unit) =>
  drw <|
  ld [.int .u64] ⟨n6, 0⟩ fun (x39 : Int) =>
  deref d fun q40 =>
  deref d fun q41 =>
  req (0 ≤ (0:Int) ∧ (0:Int) < 3) <|
  ld [.int .u64] q41 fun (x42 : Int) =>
  ld [.int .u64, .int .u64] ⟨q40.b, q40.o + 1 + (0:Int).toNat * 2⟩ fun (x43 : Int × Int) =>
  call Try.prog N_winmax_near [.lf (.int .u64 x39), .agg (Ks.mk [.int .u64, .int .u64] x43), .lf (.int .u64 x42)] [.lf .bool] fun (r44 : Bool) =>
  ite' (!r44) (
  ld [.int .u64, .int .u64] ⟨n6, 0⟩ fun (x45 : Int × Int) =>
  call Try.prog N_winmax_Max_push [.lf (.ptr d), .agg (Ks.mk [.int .u64, .int .u64] x45)] [] fun (r46 : Unit) =>
  J29 ()) <|
  J29 ()) <|
  join [.bool] (fun J47 =>
  drw <|
  deref d fun q49 =>
  deref d fun q50 =>
  req (0 ≤ (1:Int) ∧ (1:Int) < 3) <|
  req (0 ≤ (0:Int) ∧ (0:Int) < 3) <|
  ld [.int .u64] ⟨q49.b, q49.o + 1 + (1:Int).toNat * 2⟩ fun (x51 : Int) =>
  ld [.int .u64] ⟨q50.b, q50.o + 1 + (0:Int).toNat * 2⟩ fun (x52 : Int) =>
  ite' (x51 == x52) (
  ld [.int .u64] ⟨n6, 0⟩ fun (x53 : Int) =>
  deref d fun q54 =>
  deref d fun q55 =>
  req (0 ≤ (0:Int) ∧ (0:Int) < 3) <|
  ld [.int .u64] q55 fun (x56 : Int) =>
  ld [.int .u64, .int .u64] ⟨q54.b, q54.o + 1 + (0:Int).toNat * 2⟩ fun (x57 : Int × Int) =>
  call Try.prog N_winmax_near [.lf (.int .u64 x53), .agg (Ks.mk [.int .u64, .int .u64] x57), .lf (.int .u64 (IntKind.u64.wrap (x56.tdiv (4:Int))))] [.lf .bool] fun (r58 : Bool) =>
  J47 (!r58)) <|
  J47 false) fun (y48 : Bool) =>
  ite' y48 (
  ld [.int .u64, .int .u64] ⟨n6, 0⟩ fun (x59 : Int × Int) =>
  call Try.prog N_winmax_Max_all [.lf (.ptr d), .lf (.int .i64 (1:Int)), .agg (Ks.mk [.int .u64, .int .u64] x59)] [] fun (r60 : Unit) =>
  J29 ()) <|
  join [.bool] (fun J61 =>
  drw <|
  deref d fun q63 =>
  deref d fun q64 =>
  req (0 ≤ (2:Int) ∧ (2:Int) < 3) <|
  req (0 ≤ (1:Int) ∧ (1:Int) < 3) <|
  ld [.int .u64] ⟨q63.b, q63.o + 1 + (2:Int).toNat * 2⟩ fun (x65 : Int) =>
  ld [.int .u64] ⟨q64.b, q64.o + 1 + (1:Int).toNat * 2⟩ fun (x66 : Int) =>
  ite' (x65 == x66) (
  ld [.int .u64] ⟨n6, 0⟩ fun (x67 : Int) =>
  deref d fun q68 =>
  deref d fun q69 =>
  req (0 ≤ (0:Int) ∧ (0:Int) < 3) <|
  ld [.int .u64] q69 fun (x70 : Int) =>
  ld [.int .u64, .int .u64] ⟨q68.b, q68.o + 1 + (0:Int).toNat * 2⟩ fun (x71 : Int × Int) =>
  call Try.prog N_winmax_near [.lf (.int .u64 x67), .agg (Ks.mk [.int .u64, .int .u64] x71), .lf (.int .u64 (IntKind.u64.wrap (x70.tdiv (2:Int))))] [.lf .bool] fun (r72 : Bool) =>
  J61 (!r72)) <|
  J61 false) fun (y62 : Bool) =>
  ite' y62 (
  ld [.int .u64, .int .u64] ⟨n6, 0⟩ fun (x73 : Int × Int) =>
  call Try.prog N_winmax_Max_all [.lf (.ptr d), .lf (.int .i64 (2:Int)), .agg (Ks.mk [.int .u64, .int .u64] x73)] [] fun (r74 : Unit) =>
  J29 ()) <|
  J29 ()) fun (y30 : Unit) =>
  deref d fun q75 =>
  req (0 ≤ (0:Int) ∧ (0:Int) < 3) <|
  ld [.int .u64] ⟨q75.b, q75.o + 1 + (0:Int).toNat * 2 + 1⟩ fun (x76 : Int) =>
  R x76
theorem sem_winmax_Max_Update (d : Option Pt) (o : Int) (a : Int) (R : Rs.T [.lf (.int .u64)] → WP) : Same (semF Try.prog Try.f72 (.s .o (.s (.s .o (.s (.s .o .o) .o)) (.s .o (.s .o (.s (.j [(48, .lf .bool)] (.d (.f 0 [2] (.f 1 [0] (.f 2 [27] (.f 3 [28] (.f 4 [29] (.f 5 [30] (.f 6 [31] (.f 7 [26, 32] (.f 8 [33] (.f 9 [7, 34] (.f 11 [0, 34] (.f 16 [0, 34] (.f 10 [34, 35] (.f 12 [34, 37] (.f 17 [34, 42] (.f 13 [34, 38] (.f 18 [34, 43] (.f 14 [34, 39] (.f 19 [34, 44] (.f 15 [34, 40] (.w 20 [34, 36, 41, 45] (.f 21 [34, 46] (.f 22 [34, 47] .fin)))))))))))))))))))))))) (.s (.s .o (.s .o .o)) .o)) (.s .o (.j [] (.s .o (.b (.l [(55, .lf (.int .i64))] (.s .o (.s (.s .o .o) (.s (.b (.s .o (.j [(70, .lf .bool)] .o (.s (.s .o .o) .o)))) .o)))))) (.j [] (.b (.s (.d (.f 0 [7] (.f 2 [0] (.f 7 [0] (.f 1 [77] (.f 3 [79] (.f 8 [84] (.f 4 [80] (.f 9 [85] (.f 5 [81] (.f 10 [86] (.f 6 [82] (.w 11 [78, 83, 87] (.f 12 [88] (.w 13 [89] .fin))))))))))))))) (.s (.s .o (.s (.d (.f 0 [7] (.f 2 [0] (.f 7 [0] (.f 1 [93] (.f 3 [95] (.f 8 [100] (.f 4 [96] (.f 9 [101] (.f 5 [97] (.f 10 [102] (.f 6 [98] (.w 11 [94, 99, 103] (.f 12 [104] .fin)))))))))))))) (.s .o .o))) (.j [(109, .lf .bool)] (.d (.f 0 [0] (.f 6 [0] (.f 1 [110] (.f 7 [116] (.f 2 [111] (.f 8 [117] (.f 3 [112] (.f 9 [118] (.f 4 [113] (.f 10 [119] (.f 5 [114] (.f 11 [120] (.f 12 [115, 121] (.f 13 [122] (.f 14 [7, 123] (.f 16 [0, 123] (.f 21 [0, 123] (.f 15 [123, 124] (.f 17 [123, 126] (.f 22 [123, 131] (.f 18 [123, 127] (.f 23 [123, 132] (.f 19 [123, 128] (.f 24 [123, 133] (.f 20 [123, 129] (.f 25 [123, 134] (.w 26 [123, 125, 130, 135] (.f 27 [123, 136] (.f 28 [123, 137] (.w 29 [138] .fin))))))))))))))))))))))))))))))) (.s .o (.j [(142, .lf .bool)] (.d (.f 0 [0] (.f 6 [0] (.f 1 [143] (.f 7 [149] (.f 2 [144] (.f 8 [150] (.f 3 [145] (.f 9 [151] (.f 4 [146] (.f 10 [152] (.f 5 [147] (.f 11 [153] (.f 12 [148, 154] (.f 13 [155] (.f 14 [7, 156] (.f 16 [0, 156] (.f 21 [0, 156] (.f 15 [156, 157] (.f 17 [156, 159] (.f 22 [156, 164] (.f 18 [156, 160] (.f 23 [156, 165] (.f 19 [156, 161] (.f 24 [156, 166] (.f 20 [156, 162] (.f 25 [156, 167] (.w 26 [156, 158, 163, 168] (.f 27 [156, 169] (.f 28 [156, 170] (.w 29 [171] .fin))))))))))))))))))))))))))))))) (.s .o .o))))))) (.s .o .o))))))))) [.lf (.ptr d), .lf (.int .u64 o), .lf (.int .u64 a)] [.lf (.int .u64)] R) (fun w => W_winmax_Max_Update d o a R w) := ⟨by kernel_rfl⟩
theorem call_winmax_Max_Update (d : Option Pt) (o : Int) (a : Int) (R : Rs.T [.lf (.int .u64)] → WP) (w : World) (h : W_winmax_Max_Update d o a R w) :
    CallX Try.prog N_winmax_Max_Update ([.lf (.ptr d), .lf (.int .u64 o), .lf (.int .u64 a)].map V1.enc) w fun v w' => ∃ x, v = (retTV (Rs.mk [.lf (.int .u64)] x)).enc ∧ R x w' :=
  callX_of_semF Try.func72 (by kernel_rfl) (by kernel_rfl) (sem_winmax_Max_Update d o a R) h


/-- (*canter/winmax.Max).all -/
def W_winmax_Max_all (m : Option Pt) (from' : Int) (s : Int × Int) (R : Rs.T [] → WP) : WP :=
  new (Ks.mk [.int .u64, .int .u64] s) fun n1 =>
  deref m fun q2 =>
  slc ⟨some ⟨q2.b, q2.o + 1⟩, 3, 3⟩ (some from') none none 2 fun s3 =>
  loop [.int .i64] (0:Int) fun J4 (y5 : Int) =>
  ite' (decide (y5 < ((s3.len : Nat) : Int))) (
  drw <|
  ld [.int .u64, .int .u64] ⟨n1, 0⟩ fun (x6 : Int × Int) =>
  deref m fun q7 =>
  req (0 ≤ (IntKind.i64.wrap (from' + y5)) ∧ (IntKind.i64.wrap (from' + y5)) < 3) <|
  st ⟨q7.b, q7.o + 1 + (IntKind.i64.wrap (from' + y5)).toNat * 2⟩ (Ks.mk [.int .u64, .int .u64] x6) <|
  J4 (IntKind.i64.wrap (y5 + (1:Int)))) <|
  R ()
theorem sem_winmax_Max_all (m : Option Pt) (from' : Int) (s : Int × Int) (R : Rs.T [] → WP) : Same (semF Try.prog Try.f101 (.s .o (.s .o (.b (.l [(13, .lf (.int .i64))] (.s .o (.s (.s .o .o) (.s (.b (.s .o (.d (.f 0 [0] (.f 1 [1] (.f 2 [6] (.f 4 [5] (.f 3 [17, 18] (.f 5 [16] (.f 6 [21] (.f 7 [19, 22] (.w 8 [20, 23] .fin)))))))))))) .o))))))) [.lf (.ptr m), .lf (.int .i64 from'), .agg (Ks.mk [.int .u64, .int .u64] s)] [] R) (fun w => W_winmax_Max_all m from' s R w) := ⟨by kernel_rfl⟩
theorem call_winmax_Max_all (m : Option Pt) (from' : Int) (s : Int × Int) (R : Rs.T [] → WP) (w : World) (h : W_winmax_Max_all m from' s R w) :
    CallX Try.prog N_winmax_Max_all ([.lf (.ptr m), .lf (.int .i64 from'), .agg (Ks.mk [.int .u64, .int .u64] s)].map V1.enc) w fun v w' => ∃ x, v = (retTV (Rs.mk [] x)).enc ∧ R x w' :=
  callX_of_semF Try.func101 (by kernel_rfl) (by kernel_rfl) (sem_winmax_Max_all m from' s R) h


/-- (*canter/winmax.Max).push -/
def W_winmax_Max_push (m : Option Pt) (s : Int × Int) (R : Rs.T [] → WP) : WP :=
  new (Ks.mk [.int .u64, .int .u64] s) fun n1 =>
  drw <|
  ld [.int .u64, .int .u64] ⟨n1, 0⟩ fun (x2 : Int × Int) =>
  deref m fun q3 =>
  deref m fun q4 =>
  deref m fun q5 =>
  deref m fun q6 =>
  deref m fun q7 =>
  req (0 ≤ (1:Int) ∧ (1:Int) < 3) <|
  req (0 ≤ (2:Int) ∧ (2:Int) < 3) <|
  ld [.int .u64, .int .u64] ⟨q3.b, q3.o + 1 + (1:Int).toNat * 2⟩ fun (x8 : Int × Int) =>
  ld [.int .u64, .int .u64] ⟨q4.b, q4.o + 1 + (2:Int).toNat * 2⟩ fun (x9 : Int × Int) =>
  req (0 ≤ (0:Int) ∧ (0:Int) < 3) <|
  st ⟨q5.b, q5.o + 1 + (0:Int).toNat * 2⟩ (Ks.mk [.int .u64, .int .u64] x8) <|
  chk ⟨n1, 0⟩ (Ks.mk [.int .u64, .int .u64] x2) <|
  req (0 ≤ (1:Int) ∧ (1:Int) < 3) <|
  st ⟨q6.b, q6.o + 1 + (1:Int).toNat * 2⟩ (Ks.mk [.int .u64, .int .u64] x9) <|
  chk ⟨n1, 0⟩ (Ks.mk [.int .u64, .int .u64] x2) <|
  req (0 ≤ (2:Int) ∧ (2:Int) < 3) <|
  st ⟨q7.b, q7.o + 1 + (2:Int).toNat * 2⟩ (Ks.mk [.int .u64, .int .u64] x2) <|
  R ()
theorem sem_winmax_Max_push (m : Option Pt) (s : Int × Int) (R : Rs.T [] → WP) : Same (semF Try.prog Try.f102 (.s .o (.d (.f 0 [0] (.f 1 [0] (.f 2 [0] (.f 3 [0] (.f 8 [0] (.f 13 [3] (.f 4 [7] (.f 9 [12] (.f 14 [4] (.f 18 [5] (.f 22 [6] (.f 5 [8] (.f 10 [13] (.f 15 [18] (.f 19 [21] (.f 23 [24] (.f 6 [9] (.f 11 [14] (.f 7 [10] (.f 12 [15] (.f 16 [19] (.w 17 [11, 20] (.f 20 [22] (.w 21 [16, 23] (.f 24 [25] (.w 25 [17, 26] .fin)))))))))))))))))))))))))))) [.lf (.ptr m), .agg (Ks.mk [.int .u64, .int .u64] s)] [] R) (fun w => W_winmax_Max_push m s R w) := ⟨by kernel_rfl⟩
theorem call_winmax_Max_push (m : Option Pt) (s : Int × Int) (R : Rs.T [] → WP) (w : World) (h : W_winmax_Max_push m s R w) :
    CallX Try.prog N_winmax_Max_push ([.lf (.ptr m), .agg (Ks.mk [.int .u64, .int .u64] s)].map V1.enc) w fun v w' => ∃ x, v = (retTV (Rs.mk [] x)).enc ∧ R x w' :=
  callX_of_semF Try.func102 (by kernel_rfl) (by kernel_rfl) (sem_winmax_Max_push m s R) h


/-- canter/winmax.New -/
def W_winmax_New (window : Int) (R : Rs.T [.lf .ptr] → WP) : WP :=
  new [.int .u64 window, .int .u64 (0:Int), .int .u64 (0:Int), .int .u64 (0:Int), .int .u64 (0:Int), .int .u64 (0:Int), .int .u64 (0:Int), .int .u64 (0:Int)] fun n1 =>
  R (some ⟨n1, 0⟩)
theorem sem_winmax_New (window : Int) (R : Rs.T [.lf .ptr] → WP) : Same (semF Try.prog Try.f23 (.s .o (.s .o (.s .o .o))) [.lf (.int .u64 window)] [.lf .ptr] R) (fun w => W_winmax_New window R w) := ⟨by kernel_rfl⟩
theorem call_winmax_New (window : Int) (R : Rs.T [.lf .ptr] → WP) (w : World) (h : W_winmax_New window R w) :
    CallX Try.prog N_winmax_New ([.lf (.int .u64 window)].map V1.enc) w fun v w' => ∃ x, v = (retTV (Rs.mk [.lf .ptr] x)).enc ∧ R x w' :=
  callX_of_semF Try.func23 (by kernel_rfl) (by kernel_rfl) (sem_winmax_New window R) h


/-- canter/winmax.near -/
def W_winmax_near (t : Int) (s : Int × Int) (window : Int) (R : Rs.T [.lf .bool] → WP) : WP :=
  new (Ks.mk [.int .u64, .int .u64] s) fun n1 =>
  ld [.int .u64] ⟨n1, 0⟩ fun (x2 : Int) =>
  R (decide ((IntKind.u64.wrap (t - (if x2 < t then x2 else t))) ≤ window))
theorem sem_winmax_near (t : Int) (s : Int × Int) (window : Int) (R : Rs.T [.lf .bool] → WP) : Same (semF Try.prog Try.f99 (.s .o (.s .o .o)) [.lf (.int .u64 t), .agg (Ks.mk [.int .u64, .int .u64] s), .lf (.int .u64 window)] [.lf .bool] R) (fun w => W_winmax_near t s window R w) := ⟨by kernel_rfl⟩
theorem call_winmax_near (t : Int) (s : Int × Int) (window : Int) (R : Rs.T [.lf .bool] → WP) (w : World) (h : W_winmax_near t s window R w) :
    CallX Try.prog N_winmax_near ([.lf (.int .u64 t), .agg (Ks.mk [.int .u64, .int .u64] s), .lf (.int .u64 window)].map V1.enc) w fun v w' => ∃ x, v = (retTV (Rs.mk [.lf .bool] x)).enc ∧ R x w' :=
  callX_of_semF Try.func99 (by kernel_rfl) (by kernel_rfl) (sem_winmax_near t s window R) h



end Go.X
