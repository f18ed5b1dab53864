/- What each function of the program computes, as a weakest precondition, printed by program; the kernel sees that the code says so. -/
import Derived.Test.YteeabliibhedoaaK
import Derived.Test.YteeabliibhedoaaProg
set_option linter.unusedVariables false
namespace Go.X
open Go.Proofs
/-- (*canter/canterref08.Win).Update -/
def W_canterref08_Win_Update (d : Option Pt) (o : Int) (a : Int) (R : Rs.T [.lf (.int .u64)] → WP) : WP :=
  deref d fun q1 =>
  ld [.int .u64] ⟨q1.b, q1.o + 7⟩ fun (x2 : Int) =>
  deref d fun q3 =>
  st ⟨q3.b, q3.o + 7⟩ [.int .u64 (if x2 > o then x2 else o)] <|
  join [.bool] (fun J4 =>
  drw <|
  call Try.prog N_canterref08_Win_beats [.lf (.ptr d), .lf (.int .u64 a), .lf (.int .i64 (0:Int))] [.lf .bool] fun (r6 : Bool) =>
  ite' r6 (
  J4 true) <|
  deref d fun q7 =>
  req (0 ≤ (2:Int) ∧ (2:Int) < 3) <|
  ld [.int .u64] ⟨q7.b, q7.o + 1 + (2:Int).toNat * 1⟩ fun (x8 : Int) =>
  ite' (decide ((if x2 > o then x2 else o) > x8)) (
  deref d fun q9 =>
  deref d fun q10 =>
  req (0 ≤ (2:Int) ∧ (2:Int) < 3) <|
  ld [.int .u64] q10 fun (x11 : Int) =>
  ld [.int .u64] ⟨q9.b, q9.o + 1 + (2:Int).toNat * 1⟩ fun (x12 : Int) =>
  J4 (decide ((IntKind.u64.wrap ((if x2 > o then x2 else o) - x12)) > x11))) <|
  J4 false) fun (y5 : Bool) =>
  ite' y5 (
  call Try.prog N_canterref08_Win_Reset [.lf (.ptr d), .lf (.int .u64 (if x2 > o then x2 else o)), .lf (.int .u64 a)] [] fun (r13 : Unit) =>
  R a) <|
  join [] (fun J14 =>
  call Try.prog N_canterref08_Win_beats [.lf (.ptr d), .lf (.int .u64 a), .lf (.int .i64 (1:Int))] [.lf .bool] fun (r16 : Bool) =>
  ite' r16 (
  call Try.prog N_canterref08_Win_set [.lf (.ptr d), .lf (.int .i64 (1:Int)), .lf (.int .u64 (if x2 > o then x2 else o)), .lf (.int .u64 a)] [] fun (r17 : Unit) =>
  call Try.prog N_canterref08_Win_set [.lf (.ptr d), .lf (.int .i64 (2:Int)), .lf (.int .u64 (if x2 > o then x2 else o)), .lf (.int .u64 a)] [] fun (r18 : Unit) =>
  J14 ()) <|
  call Try.prog N_canterref08_Win_beats [.lf (.ptr d), .lf (.int .u64 a), .lf (.int .i64 (2:Int))] [.lf .bool] fun (r19 : Bool) =>
  ite' r19 (
  call Try.prog N_canterref08_Win_set [.lf (.ptr d), .lf (.int .i64 (2:Int)), .lf (.int .u64 (if x2 > o then x2 else o)), .lf (.int .u64 a)] [] fun (r20 : Unit) =>
  J14 ()) <|
  J14 ()) fun (y15 : Unit) =>
  deref d fun q21 =>
  req (0 ≤ (0:Int) ∧ (0:Int) < 3) <|
  ld [.int .u64] ⟨q21.b, q21.o + 1 + (0:Int).toNat * 1⟩ fun (x22 : Int) =>
  call Try.prog N_canterref01_Sub [.lf (.int .u64 (if x2 > o then x2 else o)), .lf (.int .u64 x22)] [.lf (.int .u64)] fun (r23 : Int) =>
  join [] (fun J24 =>
  deref d fun q26 =>
  ld [.int .u64] q26 fun (x27 : Int) =>
  ite' (decide (r23 > x27)) (
  call Try.prog N_canterref08_Win_shift [.lf (.ptr d), .lf (.int .u64 (if x2 > o then x2 else o)), .lf (.int .u64 a)] [] fun (r28 : Unit) =>
  drw <|
  deref d fun q29 =>
  deref d fun q30 =>
  req (0 ≤ (0:Int) ∧ (0:Int) < 3) <|
  ld [.int .u64] q30 fun (x31 : Int) =>
  ld [.int .u64] ⟨q29.b, q29.o + 1 + (0:Int).toNat * 1⟩ fun (x32 : Int) =>
  call Try.prog N_canterref01_Sub [.lf (.int .u64 (if x2 > o then x2 else o)), .lf (.int .u64 x32)] [.lf (.int .u64)] fun (r33 : Int) =>
  chk q30 (Ks.mk [.int .u64] x31) <|
  ite' (decide (r33 > x31)) (
  call Try.prog N_canterref08_Win_shift [.lf (.ptr d), .lf (.int .u64 (if x2 > o then x2 else o)), .lf (.int .u64 a)] [] fun (r34 : Unit) =>
  J24 ()) <|
  J24 ()) <|
  join [.bool] (fun J35 =>
  drw <|
  deref d fun q37 =>
  deref d fun q38 =>
  req (0 ≤ (1:Int) ∧ (1:Int) < 3) <|
  req (0 ≤ (0:Int) ∧ (0:Int) < 3) <|
  ld [.int .u64] ⟨q37.b, q37.o + 1 + (1:Int).toNat * 1⟩ fun (x39 : Int) =>
  ld [.int .u64] ⟨q38.b, q38.o + 1 + (0:Int).toNat * 1⟩ fun (x40 : Int) =>
  ite' (x39 == x40) (
  deref d fun q41 =>
  ld [.int .u64] q41 fun (x42 : Int) =>
  J35 (decide (r23 > (IntKind.u64.wrap (x42.tdiv (4:Int)))))) <|
  J35 false) fun (y36 : Bool) =>
  ite' y36 (
  call Try.prog N_canterref08_Win_set [.lf (.ptr d), .lf (.int .i64 (1:Int)), .lf (.int .u64 (if x2 > o then x2 else o)), .lf (.int .u64 a)] [] fun (r43 : Unit) =>
  call Try.prog N_canterref08_Win_set [.lf (.ptr d), .lf (.int .i64 (2:Int)), .lf (.int .u64 (if x2 > o then x2 else o)), .lf (.int .u64 a)] [] fun (r44 : Unit) =>
  J24 ()) <|
  drw <|
  deref d fun q45 =>
  deref d fun q46 =>
  req (0 ≤ (2:Int) ∧ (2:Int) < 3) <|
  req (0 ≤ (1:Int) ∧ (1:Int) < 3) <|
  ld [.int .u64] ⟨q45.b, q45.o + 1 + (2:Int).toNat * 1⟩ fun (x47 : Int) =>
  ld [.int .u64] ⟨q46.b, q46.o + 1 + (1:Int).toNat * 1⟩ fun (x48 : Int) =>
  ite' (x47 == x48) (
  deref d fun q49 =>
  ld [.int .u64] q49 fun (x50 : Int) =>
  ite' (decide (r23 > (IntKind.u64.wrap (x50.tdiv (2:Int))))) (
  call Try.prog N_canterref08_Win_set [.lf (.ptr d), .lf (.int .i64 (2:Int)), .lf (.int .u64 (if x2 > o then x2 else o)), .lf (.int .u64 a)] [] fun (r51 : Unit) =>
  J24 ()) <|
  J24 ()) <|
  J24 ()) fun (y25 : Unit) =>
  deref d fun q52 =>
  req (0 ≤ (0:Int) ∧ (0:Int) < 3) <|
  ld [.int .u64] ⟨q52.b, q52.o + 4 + (0:Int).toNat * 1⟩ fun (x53 : Int) =>
  R x53
theorem sem_canterref08_Win_Update (d : Option Pt) (o : Int) (a : Int) (R : Rs.T [.lf (.int .u64)] → WP) : Same (semF Try.prog Try.f54 (.s .o (.s .o (.s .o (.s (.j [(43, .lf .bool)] (.d (.f 0 [0] (.f 1 [2] (.w 2 [18, 19] (.f 3 [20] (.f 4 [1, 21] (.f 5 [0, 21] (.f 6 [21, 23] (.f 7 [21, 24] (.f 8 [21, 25] (.f 9 [21, 26] (.f 10 [21, 22, 27] (.f 11 [21, 28] (.f 12 [1, 29] (.f 13 [0, 29] (.f 19 [0, 29] (.f 14 [29, 31] (.f 20 [29, 37] (.f 15 [29, 32] (.f 21 [29, 38] (.f 16 [29, 33] (.f 22 [29, 39] (.f 17 [29, 34] (.f 18 [29, 30, 35] (.f 23 [29, 36, 40] (.f 24 [21, 29, 41] (.f 25 [21, 42] .fin))))))))))))))))))))))))))) (.s (.s .o (.s .o .o)) .o)) (.j [] (.s .o (.s (.s .o .o) (.s .o (.s .o .o)))) (.s .o (.j [] (.b (.s .o (.s (.s .o (.s (.d (.f 0 [1] (.f 1 [0] (.f 7 [0] (.f 2 [86] (.f 8 [92] (.f 3 [87] (.f 9 [93] (.f 4 [88] (.f 10 [94] (.f 5 [89] (.w 6 [85, 90] (.f 11 [91, 95] .fin))))))))))))) (.s .o .o))) (.j [(101, .lf .bool)] (.d (.f 0 [0] (.f 5 [0] (.f 1 [102] (.f 6 [107] (.f 2 [103] (.f 7 [108] (.f 3 [104] (.f 8 [109] (.f 4 [105] (.f 9 [110] (.f 10 [106, 111] (.f 11 [112] (.f 12 [7, 113] (.f 13 [0, 113] (.f 14 [113, 115] (.f 15 [113, 116] (.f 16 [113, 117] (.f 17 [113, 118] (.f 18 [113, 114, 119] (.f 19 [113, 120] (.w 20 [121] .fin)))))))))))))))))))))) (.s (.s .o .o) (.s (.d (.f 0 [0] (.f 5 [0] (.f 1 [131] (.f 6 [136] (.f 2 [132] (.f 7 [137] (.f 3 [133] (.f 8 [138] (.f 4 [134] (.f 9 [139] (.f 10 [135, 140] (.f 11 [141] (.f 12 [7, 142] (.f 13 [0, 142] (.f 14 [142, 144] (.f 15 [142, 145] (.f 16 [142, 146] (.f 17 [142, 147] (.f 18 [142, 143, 148] (.f 19 [142, 149] (.w 20 [150] .fin)))))))))))))))))))))) (.s .o .o))))))) (.s .o .o)))))))) [.lf (.ptr d), .lf (.int .u64 o), .lf (.int .u64 a)] [.lf (.int .u64)] R) (fun w => W_canterref08_Win_Update d o a R w) := ⟨by kernel_rfl⟩
theorem call_canterref08_Win_Update (d : Option Pt) (o : Int) (a : Int) (R : Rs.T [.lf (.int .u64)] → WP) (w : World) (h : W_canterref08_Win_Update d o a R w) :
    CallX Try.prog N_canterref08_Win_Update ([.lf (.ptr d), .lf (.int .u64 o), .lf (.int .u64 a)].map V1.enc) w fun v w' => ∃ x, v = (retTV (Rs.mk [.lf (.int .u64)] x)).enc ∧ R x w' :=
  callX_of_semF Try.func54 (by kernel_rfl) (by kernel_rfl) (sem_canterref08_Win_Update d o a R) h


/-- (*canter/canterref08.Win).beats -/
def W_canterref08_Win_beats (w' : Option Pt) (v : Int) (i : Int) (R : Rs.T [.lf .bool] → WP) : WP :=
  deref w' fun q1 =>
  ld [.bool] ⟨q1.b, q1.o + 8⟩ fun (x2 : Bool) =>
  ite' x2 (
  deref w' fun q3 =>
  req (0 ≤ i ∧ i < 3) <|
  ld [.int .u64] ⟨q3.b, q3.o + 4 + i.toNat * 1⟩ fun (x4 : Int) =>
  R (decide (v ≤ x4))) <|
  deref w' fun q5 =>
  req (0 ≤ i ∧ i < 3) <|
  ld [.int .u64] ⟨q5.b, q5.o + 4 + i.toNat * 1⟩ fun (x6 : Int) =>
  R (decide (v ≥ x6))
theorem sem_canterref08_Win_beats (w' : Option Pt) (v : Int) (i : Int) (R : Rs.T [.lf .bool] → WP) : Same (semF Try.prog Try.f85 (.s .o (.s (.s .o (.s (.s .o .o) .o)) (.s .o .o))) [.lf (.ptr w'), .lf (.int .u64 v), .lf (.int .i64 i)] [.lf .bool] R) (fun w => W_canterref08_Win_beats w' v i R w) := ⟨by kernel_rfl⟩
theorem call_canterref08_Win_beats (w' : Option Pt) (v : Int) (i : Int) (R : Rs.T [.lf .bool] → WP) (w : World) (h : W_canterref08_Win_beats w' v i R w) :
    CallX Try.prog N_canterref08_Win_beats ([.lf (.ptr w'), .lf (.int .u64 v), .lf (.int .i64 i)].map V1.enc) w fun v w' => ∃ x, v = (retTV (Rs.mk [.lf .bool] x)).enc ∧ R x w' :=
  callX_of_semF Try.func85 (by kernel_rfl) (by kernel_rfl) (sem_canterref08_Win_beats w' v i R) h


/-- (*canter/canterref08.Win).set -/
def W_canterref08_Win_set (w' : Option Pt) (i : Int) (t : Int) (v : Int) (R : Rs.T [] → WP) : WP :=
  drw <|
  deref w' fun q1 =>
  deref w' fun q2 =>
  req (0 ≤ i ∧ i < 3) <|
  st ⟨q1.b, q1.o + 1 + i.toNat * 1⟩ [.int .u64 t] <|
  req (0 ≤ i ∧ i < 3) <|
  st ⟨q2.b, q2.o + 4 + i.toNat * 1⟩ [.int .u64 v] <|
  R ()
theorem sem_canterref08_Win_set (w' : Option Pt) (i : Int) (t : Int) (v : Int) (R : Rs.T [] → WP) : Same (semF Try.prog Try.f87 (.d (.f 0 [0] (.f 1 [1] (.f 2 [0] (.f 3 [1] (.f 4 [2] (.f 5 [3] (.f 6 [8] (.f 10 [10] (.f 7 [14] (.f 11 [17] (.f 8 [9, 15] (.w 9 [12, 16] (.f 12 [11, 18] (.w 13 [13, 19] .fin))))))))))))))) [.lf (.ptr w'), .lf (.int .i64 i), .lf (.int .u64 t), .lf (.int .u64 v)] [] R) (fun w => W_canterref08_Win_set w' i t v R w) := ⟨by kernel_rfl⟩
theorem call_canterref08_Win_set (w' : Option Pt) (i : Int) (t : Int) (v : Int) (R : Rs.T [] → WP) (w : World) (h : W_canterref08_Win_set w' i t v R w) :
    CallX Try.prog N_canterref08_Win_set ([.lf (.ptr w'), .lf (.int .i64 i), .lf (.int .u64 t), .lf (.int .u64 v)].map V1.enc) w fun v w' => ∃ x, v = (retTV (Rs.mk [] x)).enc ∧ R x w' :=
  callX_of_semF Try.func87 (by kernel_rfl) (by kernel_rfl) (sem_canterref08_Win_set w' i t v R) h


/-- (*canter/canterref08.Win).shift -/
def W_canterref08_Win_shift (w' : Option Pt) (t : Int) (v : Int) (R : Rs.T [] → WP) : WP :=
  drw <|
  deref w' fun q1 =>
  deref w' fun q2 =>
  deref w' fun q3 =>
  deref w' fun q4 =>
  req (0 ≤ (1:Int) ∧ (1:Int) < 3) <|
  req (0 ≤ (2:Int) ∧ (2:Int) < 3) <|
  req (0 ≤ (1:Int) ∧ (1:Int) < 3) <|
  req (0 ≤ (2:Int) ∧ (2:Int) < 3) <|
  ld [.int .u64] ⟨q1.b, q1.o + 1 + (1:Int).toNat * 1⟩ fun (x5 : Int) =>
  ld [.int .u64] ⟨q2.b, q2.o + 1 + (2:Int).toNat * 1⟩ fun (x6 : Int) =>
  ld [.int .u64] ⟨q3.b, q3.o + 4 + (1:Int).toNat * 1⟩ fun (x7 : Int) =>
  ld [.int .u64] ⟨q4.b, q4.o + 4 + (2:Int).toNat * 1⟩ fun (x8 : Int) =>
  deref w' fun q9 =>
  st ⟨q9.b, q9.o + 1⟩ [.int .u64 x5, .int .u64 x6, .int .u64 t] <|
  deref w' fun q10 =>
  st ⟨q10.b, q10.o + 4⟩ [.int .u64 x7, .int .u64 x8, .int .u64 v] <|
  R ()
theorem sem_canterref08_Win_shift (w' : Option Pt) (t : Int) (v : Int) (R : Rs.T [] → WP) : Same (semF Try.prog Try.f88 (.d (.f 0 [0] (.f 1 [0] (.f 2 [0] (.f 7 [0] (.f 12 [1] (.f 14 [0] (.f 19 [0] (.f 24 [2] (.f 3 [8] (.f 8 [13] (.f 15 [20] (.f 20 [25] (.f 4 [9] (.f 9 [14] (.f 16 [21] (.f 21 [26] (.f 5 [10] (.f 10 [15] (.f 17 [22] (.f 22 [27] (.f 6 [11] (.f 11 [16] (.f 18 [23] (.f 23 [28] (.f 13 [12, 17, 18] (.f 25 [24, 29, 30] (.f 26 [6] (.f 27 [32] (.w 28 [19, 33] (.f 29 [7] (.f 30 [34] (.w 31 [31, 35] .fin))))))))))))))))))))))))))))))))) [.lf (.ptr w'), .lf (.int .u64 t), .lf (.int .u64 v)] [] R) (fun w => W_canterref08_Win_shift w' t v R w) := ⟨by kernel_rfl⟩
theorem call_canterref08_Win_shift (w' : Option Pt) (t : Int) (v : Int) (R : Rs.T [] → WP) (w : World) (h : W_canterref08_Win_shift w' t v R w) :
    CallX Try.prog N_canterref08_Win_shift ([.lf (.ptr w'), .lf (.int .u64 t), .lf (.int .u64 v)].map V1.enc) w fun v w' => ∃ x, v = (retTV (Rs.mk [] x)).enc ∧ R x w' :=
  callX_of_semF Try.func88 (by kernel_rfl) (by kernel_rfl) (sem_canterref08_Win_shift w' t v R) h


/-- canter/canterref08.near -/
def W_canterref08_near (old : Int) (bw : Int) (R : Rs.T [.lf .bool] → WP) : WP :=
  R (decide ((IntKind.u64.wrap ((if bw > old then bw else old) - (if bw < old then bw else old))) ≤ (IntKind.u64.wrap (old.tdiv (8:Int)))))
theorem sem_canterref08_near (old : Int) (bw : Int) (R : Rs.T [.lf .bool] → WP) : Same (semF Try.prog Try.f105 (.s .o (.s .o .o)) [.lf (.int .u64 old), .lf (.int .u64 bw)] [.lf .bool] R) (fun w => W_canterref08_near old bw R w) := ⟨by kernel_rfl⟩
theorem call_canterref08_near (old : Int) (bw : Int) (R : Rs.T [.lf .bool] → WP) (w : World) (h : W_canterref08_near old bw R w) :
    CallX Try.prog N_canterref08_near ([.lf (.int .u64 old), .lf (.int .u64 bw)].map V1.enc) w fun v w' => ∃ x, v = (retTV (Rs.mk [.lf .bool] x)).enc ∧ R x w' :=
  callX_of_semF Try.func105 (by kernel_rfl) (by kernel_rfl) (sem_canterref08_near old bw R) h


/-- (*canter/cycle.Cycle).Gain -/
def W_cycle_Cycle_Gain (c : Option Pt) (R : Rs.T [.lf (.int .u64)] → WP) : WP :=
  ite' (!c.isNone) (
  deref c fun q1 =>
  ld [.int .i64] q1 fun (x2 : Int) =>
  ite' (x2 == (0:Int)) (
  R (320:Int)) <|
  ite' (x2 == (1:Int)) (
  R (192:Int)) <|
  R (256:Int)) <|
  R (256:Int)
theorem sem_cycle_Cycle_Gain (c : Option Pt) (R : Rs.T [.lf (.int .u64)] → WP) : Same (semF Try.prog Try.f65 (.s .o (.s (.s .o (.s (.s .o (.b (.s .o (.s (.s .o .o) (.s .o (.s (.s .o .o) .o)))))) .o)) (.s .o .o))) [.lf (.ptr c)] [.lf (.int .u64)] R) (fun w => W_cycle_Cycle_Gain c R w) := ⟨by kernel_rfl⟩
theorem call_cycle_Cycle_Gain (c : Option Pt) (R : Rs.T [.lf (.int .u64)] → WP) (w : World) (h : W_cycle_Cycle_Gain c R w) :
    CallX Try.prog N_cycle_Cycle_Gain ([.lf (.ptr c)].map V1.enc) w fun v w' => ∃ x, v = (retTV (Rs.mk [.lf (.int .u64)] x)).enc ∧ R x w' :=
  callX_of_semF Try.func65 (by kernel_rfl) (by kernel_rfl) (sem_cycle_Cycle_Gain c R) h


/-- (*canter/cycle.Cycle).Phase -/
def W_cycle_Cycle_Phase (c : Option Pt) (R : Rs.T [.lf (.int .i64)] → WP) : WP :=
  ite' c.isNone (
  R (0:Int)) <|
  deref c fun q1 =>
  ld [.int .i64] q1 fun (x2 : Int) =>
  R x2
theorem sem_cycle_Cycle_Phase (c : Option Pt) (R : Rs.T [.lf (.int .i64)] → WP) : Same (semF Try.prog Try.f35 (.s .o (.s (.s .o (.s (.s .o .o) .o)) (.s .o .o))) [.lf (.ptr c)] [.lf (.int .i64)] R) (fun w => W_cycle_Cycle_Phase c R w) := ⟨by kernel_rfl⟩
theorem call_cycle_Cycle_Phase (c : Option Pt) (R : Rs.T [.lf (.int .i64)] → WP) (w : World) (h : W_cycle_Cycle_Phase c R w) :
    CallX Try.prog N_cycle_Cycle_Phase ([.lf (.ptr c)].map V1.enc) w fun v w' => ∃ x, v = (retTV (Rs.mk [.lf (.int .i64)] x)).enc ∧ R x w' :=
  callX_of_semF Try.func35 (by kernel_rfl) (by kernel_rfl) (sem_cycle_Cycle_Phase c R) h


/-- (*canter/cycle.Cycle).Start -/
def W_cycle_Cycle_Start (c : Option Pt) (now : Int) (phase : Int) (R : Rs.T [] → WP) : WP :=
  ite' (!c.isNone) (
  deref c fun q1 =>
  st q1 [.int .i64 ((IntKind.i64.wrap ((phase.tmod (8:Int)) + (8:Int))).tmod (8:Int))] <|
  deref c fun q2 =>
  st ⟨q2.b, q2.o + 1⟩ [.int .u64 now] <|
  R ()) <|
  R ()
theorem sem_cycle_Cycle_Start (c : Option Pt) (now : Int) (phase : Int) (R : Rs.T [] → WP) : Same (semF Try.prog Try.f74 (.s .o (.s .o .o)) [.lf (.ptr c), .lf (.int .u64 now), .lf (.int .i64 phase)] [] R) (fun w => W_cycle_Cycle_Start c now phase R w) := ⟨by kernel_rfl⟩
theorem call_cycle_Cycle_Start (c : Option Pt) (now : Int) (phase : Int) (R : Rs.T [] → WP) (w : World) (h : W_cycle_Cycle_Start c now phase R w) :
    CallX Try.prog N_cycle_Cycle_Start ([.lf (.ptr c), .lf (.int .u64 now), .lf (.int .i64 phase)].map V1.enc) w fun v w' => ∃ x, v = (retTV (Rs.mk [] x)).enc ∧ R x w' :=
  callX_of_semF Try.func74 (by kernel_rfl) (by kernel_rfl) (sem_cycle_Cycle_Start c now phase R) h


/-- (*canter/cycle.Cycle).Update -/
def W_cycle_Cycle_Update (c : Option Pt) (now : Int) (rtt : Int) (lost : Int) (flight : Int) (up : Int) (one : Int) (R : Rs.T [.lf .bool] → WP) : WP :=
  loop [.bool] false fun J1 (y2 : Bool) =>
  join [] (fun J3 =>
  ite' (!c.isNone) (
  deref c fun q5 =>
  ld [.int .u64] ⟨q5.b, q5.o + 1⟩ fun (x6 : Int) =>
  call Try.prog N_sat_Sub [.lf (.int .u64 now), .lf (.int .u64 x6)] [.lf (.int .u64)] fun (r7 : Int) =>
  call Try.prog N_cycle_Cycle_ends [.lf (.ptr c), .lf (.bool (decide (r7 > rtt))), .lf (.int .u64 lost), .lf (.int .u64 flight), .lf (.int .u64 up), .lf (.int .u64 one)] [.lf .bool] fun (r8 : Bool) =>
  ite' r8 (
  J3 ()) <|
  R y2) <|
  R y2) fun (y4 : Unit) =>
  deref c fun q9 =>
  ld [.int .i64] q9 fun (x10 : Int) =>
  call Try.prog N_cycle_Cycle_Start [.lf (.ptr c), .lf (.int .u64 now), .lf (.int .i64 (IntKind.i64.wrap (x10 + (1:Int))))] [] fun (r11 : Unit) =>
  R true
theorem sem_cycle_Cycle_Update (c : Option Pt) (now : Int) (rtt : Int) (lost : Int) (flight : Int) (up : Int) (one : Int) (R : Rs.T [.lf .bool] → WP) : Same (semF Try.prog Try.f42 (.s .o (.s .o (.s .o (.s (.b (.l [(15, .lf .bool)] (.j [] (.s .o (.s .o .o)) (.b (.s .o (.s .o .o)))))) (.s .o .o))))) [.lf (.ptr c), .lf (.int .u64 now), .lf (.int .u64 rtt), .lf (.int .u64 lost), .lf (.int .u64 flight), .lf (.int .u64 up), .lf (.int .u64 one)] [.lf .bool] R) (fun w => W_cycle_Cycle_Update c now rtt lost flight up one R w) := ⟨by kernel_rfl⟩
theorem call_cycle_Cycle_Update (c : Option Pt) (now : Int) (rtt : Int) (lost : Int) (flight : Int) (up : Int) (one : Int) (R : Rs.T [.lf .bool] → WP) (w : World) (h : W_cycle_Cycle_Update c now rtt lost flight up one R w) :
    CallX Try.prog N_cycle_Cycle_Update ([.lf (.ptr c), .lf (.int .u64 now), .lf (.int .u64 rtt), .lf (.int .u64 lost), .lf (.int .u64 flight), .lf (.int .u64 up), .lf (.int .u64 one)].map V1.enc) w fun v w' => ∃ x, v = (retTV (Rs.mk [.lf .bool] x)).enc ∧ R x w' :=
  callX_of_semF Try.func42 (by kernel_rfl) (by kernel_rfl) (sem_cycle_Cycle_Update c now rtt lost flight up one R) h


/-- (*canter/cycle.Cycle).ends -/
def W_cycle_Cycle_ends (c : Option Pt) (over : Bool) (lost : Int) (flight : Int) (up : Int) (one : Int) (R : Rs.T [.lf .bool] → WP) : WP :=
  deref c fun q1 =>
  ld [.int .i64] q1 fun (x2 : Int) =>
  ite' (x2 == (0:Int)) (
  R (over && ((decide (lost > (0:Int))) || (decide (flight ≥ up))))) <|
  ite' (x2 == (1:Int)) (
  R (over || (decide (flight ≤ one)))) <|
  R over
theorem sem_cycle_Cycle_ends (c : Option Pt) (over : Bool) (lost : Int) (flight : Int) (up : Int) (one : Int) (R : Rs.T [.lf .bool] → WP) : Same (semF Try.prog Try.f73 (.s .o (.s (.s .o (.b (.s .o (.s (.s .o .o) (.s .o (.s (.s .o .o) .o)))))) (.s .o .o))) [.lf (.ptr c), .lf (.bool over), .lf (.int .u64 lost), .lf (.int .u64 flight), .lf (.int .u64 up), .lf (.int .u64 one)] [.lf .bool] R) (fun w => W_cycle_Cycle_ends c over lost flight up one R w) := ⟨by kernel_rfl⟩
theorem call_cycle_Cycle_ends (c : Option Pt) (over : Bool) (lost : Int) (flight : Int) (up : Int) (one : Int) (R : Rs.T [.lf .bool] → WP) (w : World) (h : W_cycle_Cycle_ends c over lost flight up one R w) :
    CallX Try.prog N_cycle_Cycle_ends ([.lf (.ptr c), .lf (.bool over), .lf (.int .u64 lost), .lf (.int .u64 flight), .lf (.int .u64 up), .lf (.int .u64 one)].map V1.enc) w fun v w' => ∃ x, v = (retTV (Rs.mk [.lf .bool] x)).enc ∧ R x w' :=
  callX_of_semF Try.func73 (by kernel_rfl) (by kernel_rfl) (sem_cycle_Cycle_ends c over lost flight up one R) h


/-- canter/cycle.New -/
def W_cycle_New  (R : Rs.T [.lf .ptr] → WP) : WP :=
  new [.int .i64 (0:Int), .int .u64 (0:Int)] fun n1 =>
  R (some ⟨n1, 0⟩)
theorem sem_cycle_New  (R : Rs.T [.lf .ptr] → WP) : Same (semF Try.prog Try.f26 (.s .o (.s .o .o)) [] [.lf .ptr] R) (fun w => W_cycle_New  R w) := ⟨by kernel_rfl⟩
theorem call_cycle_New  (R : Rs.T [.lf .ptr] → WP) (w : World) (h : W_cycle_New  R w) :
    CallX Try.prog N_cycle_New ([].map V1.enc) w fun v w' => ∃ x, v = (retTV (Rs.mk [.lf .ptr] x)).enc ∧ R x w' :=
  callX_of_semF Try.func26 (by kernel_rfl) (by kernel_rfl) (sem_cycle_New  R) h


/-- math/bits.Add64 (the model stands in for it) -/
def W_math_bits_Add64 (x y c : Int) (R : Rs.T [.lf (.int .u64), .lf (.int .u64)] → WP) : WP :=
  req ((0 ≤ x ∧ 0 ≤ y) ∧ 0 ≤ c ∧ c ≤ 1) <|
  R ((x + y + c) % 18446744073709551616, (x + y + c) / 18446744073709551616)
theorem call_math_bits_Add64 (x y c : Int) (R : Rs.T [.lf (.int .u64), .lf (.int .u64)] → WP) (w : World) (h : W_math_bits_Add64 x y c R w) :
    CallX Try.prog N_math_bits_Add64 ([.lf (.int .u64 x), .lf (.int .u64 y), .lf (.int .u64 c)].map V1.enc) w fun v w' => ∃ x, v = (retTV (Rs.mk [.lf (.int .u64), .lf (.int .u64)] x)).enc ∧ R x w' := by
  obtain ⟨hp, h⟩ := h
  exact callX_extern Try.func94 (by kernel_rfl) (by kernel_rfl) (by kernel_rfl) (x := add64Entry) (by kernel_rfl) (run_add64 x y c hp.1.1 hp.1.2 hp.2.1 hp.2.2 w) ⟨_, rfl, h⟩


/-- math/bits.Mul64 -/
def W_math_bits_Mul64 (x : Int) (y : Int) (R : Rs.T [.lf (.int .u64), .lf (.int .u64)] → WP) : WP :=
  req (0 ≤ (32:Int)) <|
  req (0 ≤ (32:Int)) <|
  req (0 ≤ (32:Int)) <|
  req (0 ≤ (32:Int)) <|
  req (0 ≤ (32:Int)) <|
  R ((IntKind.u64.wrap ((IntKind.u64.wrap ((IntKind.u64.wrap ((x.fdiv (2 ^ min (32:Int).toNat IntKind.u64.bits)) * (y.fdiv (2 ^ min (32:Int).toNat IntKind.u64.bits)))) + ((IntKind.u64.wrap ((IntKind.u64.wrap ((x.fdiv (2 ^ min (32:Int).toNat IntKind.u64.bits)) * (IntKind.u64.wrap (BitVec.ofInt IntKind.u64.bits y &&& BitVec.ofInt IntKind.u64.bits (4294967295:Int)).toNat))) + ((IntKind.u64.wrap ((IntKind.u64.wrap (BitVec.ofInt IntKind.u64.bits x &&& BitVec.ofInt IntKind.u64.bits (4294967295:Int)).toNat) * (IntKind.u64.wrap (BitVec.ofInt IntKind.u64.bits y &&& BitVec.ofInt IntKind.u64.bits (4294967295:Int)).toNat))).fdiv (2 ^ min (32:Int).toNat IntKind.u64.bits)))).fdiv (2 ^ min (32:Int).toNat IntKind.u64.bits)))) + ((IntKind.u64.wrap ((IntKind.u64.wrap (BitVec.ofInt IntKind.u64.bits (IntKind.u64.wrap ((IntKind.u64.wrap ((x.fdiv (2 ^ min (32:Int).toNat IntKind.u64.bits)) * (IntKind.u64.wrap (BitVec.ofInt IntKind.u64.bits y &&& BitVec.ofInt IntKind.u64.bits (4294967295:Int)).toNat))) + ((IntKind.u64.wrap ((IntKind.u64.wrap (BitVec.ofInt IntKind.u64.bits x &&& BitVec.ofInt IntKind.u64.bits (4294967295:Int)).toNat) * (IntKind.u64.wrap (BitVec.ofInt IntKind.u64.bits y &&& BitVec.ofInt IntKind.u64.bits (4294967295:Int)).toNat))).fdiv (2 ^ min (32:Int).toNat IntKind.u64.bits)))) &&& BitVec.ofInt IntKind.u64.bits (4294967295:Int)).toNat) + (IntKind.u64.wrap ((IntKind.u64.wrap (BitVec.ofInt IntKind.u64.bits x &&& BitVec.ofInt IntKind.u64.bits (4294967295:Int)).toNat) * (y.fdiv (2 ^ min (32:Int).toNat IntKind.u64.bits)))))).fdiv (2 ^ min (32:Int).toNat IntKind.u64.bits)))), (IntKind.u64.wrap (x * y)))
theorem sem_math_bits_Mul64 (x : Int) (y : Int) (R : Rs.T [.lf (.int .u64), .lf (.int .u64)] → WP) : Same (semF Try.prog Try.f106 (.s .o (.s .o (.s .o (.s .o (.s .o (.s .o (.s .o (.s .o (.s .o (.s .o (.s .o (.s .o .o)))))))))))) [.lf (.int .u64 x), .lf (.int .u64 y)] [.lf (.int .u64), .lf (.int .u64)] R) (fun w => W_math_bits_Mul64 x y R w) := ⟨by kernel_rfl⟩
theorem call_math_bits_Mul64 (x : Int) (y : Int) (R : Rs.T [.lf (.int .u64), .lf (.int .u64)] → WP) (w : World) (h : W_math_bits_Mul64 x y R w) :
    CallX Try.prog N_math_bits_Mul64 ([.lf (.int .u64 x), .lf (.int .u64 y)].map V1.enc) w fun v w' => ∃ x, v = (retTV (Rs.mk [.lf (.int .u64), .lf (.int .u64)] x)).enc ∧ R x w' :=
  callX_of_semF Try.func106 (by kernel_rfl) (by kernel_rfl) (sem_math_bits_Mul64 x y R) h

/-- canter/pipe.New -/
def W_pipe_New  (R : Rs.T [.lf .ptr] → WP) : WP :=
  new [.int .u64 (0:Int), .int .i64 (0:Int), .bool false] fun n1 =>
  R (some ⟨n1, 0⟩)
theorem sem_pipe_New  (R : Rs.T [.lf .ptr] → WP) : Same (semF Try.prog Try.f25 (.s .o (.s .o .o)) [] [.lf .ptr] R) (fun w => W_pipe_New  R w) := ⟨by kernel_rfl⟩
theorem call_pipe_New  (R : Rs.T [.lf .ptr] → WP) (w : World) (h : W_pipe_New  R w) :
    CallX Try.prog N_pipe_New ([].map V1.enc) w fun v w' => ∃ x, v = (retTV (Rs.mk [.lf .ptr] x)).enc ∧ R x w' :=
  callX_of_semF Try.func25 (by kernel_rfl) (by kernel_rfl) (sem_pipe_New  R) h


/-- (*canter/pipe.Pipe).Full -/
def W_pipe_Pipe_Full (p : Option Pt) (R : Rs.T [.lf .bool] → WP) : WP :=
  ite' (!p.isNone) (
  deref p fun q1 =>
  ld [.bool] ⟨q1.b, q1.o + 2⟩ fun (x2 : Bool) =>
  R x2) <|
  R false
theorem sem_pipe_Pipe_Full (p : Option Pt) (R : Rs.T [.lf .bool] → WP) : Same (semF Try.prog Try.f36 (.s .o (.s .o .o)) [.lf (.ptr p)] [.lf .bool] R) (fun w => W_pipe_Pipe_Full p R w) := ⟨by kernel_rfl⟩
theorem call_pipe_Pipe_Full (p : Option Pt) (R : Rs.T [.lf .bool] → WP) (w : World) (h : W_pipe_Pipe_Full p R w) :
    CallX Try.prog N_pipe_Pipe_Full ([.lf (.ptr p)].map V1.enc) w fun v w' => ∃ x, v = (retTV (Rs.mk [.lf .bool] x)).enc ∧ R x w' :=
  callX_of_semF Try.func36 (by kernel_rfl) (by kernel_rfl) (sem_pipe_Pipe_Full p R) h


/-- (*canter/pipe.Pipe).Update -/
def W_pipe_Pipe_Update (p : Option Pt) (start : Bool) (limited : Bool) (bw : Int) (R : Rs.T [.lf .bool] → WP) : WP :=
  join [] (fun J1 =>
  loop [] () fun J3 (y4 : Unit) =>
  join [] (fun J5 =>
  ite' (!p.isNone) (
  deref p fun q7 =>
  ld [.bool] ⟨q7.b, q7.o + 2⟩ fun (x8 : Bool) =>
  ite' (((!x8) && start) && (!limited)) (
  J5 ()) <|
  J1 ()) <|
  J1 ()) fun (y6 : Unit) =>
  deref p fun q9 =>
  ld [.int .u64] q9 fun (x10 : Int) =>
  call Try.prog N_wide_MulDiv [.lf (.int .u64 x10), .lf (.int .u64 (320:Int)), .lf (.int .u64 (256:Int))] [.lf (.int .u64)] fun (r11 : Int) =>
  ite' (decide (bw ≥ r11)) (
  deref p fun q12 =>
  st q12 [.int .u64 bw] <|
  deref p fun q13 =>
  st ⟨q13.b, q13.o + 1⟩ [.int .i64 (0:Int)] <|
  J1 ()) <|
  deref p fun q14 =>
  ld [.int .i64] ⟨q14.b, q14.o + 1⟩ fun (x15 : Int) =>
  deref p fun q16 =>
  st ⟨q16.b, q16.o + 1⟩ [.int .i64 (IntKind.i64.wrap (x15 + (1:Int)))] <|
  deref p fun q17 =>
  ld [.int .i64] ⟨q17.b, q17.o + 1⟩ fun (x18 : Int) =>
  deref p fun q19 =>
  st ⟨q19.b, q19.o + 2⟩ [.bool (x18 == (3:Int))] <|
  J1 ()) fun (y2 : Unit) =>
  call Try.prog N_pipe_Pipe_Full [.lf (.ptr p)] [.lf .bool] fun (r20 : Bool) =>
  R r20
theorem sem_pipe_Pipe_Update (p : Option Pt) (start : Bool) (limited : Bool) (bw : Int) (R : Rs.T [.lf .bool] → WP) : Same (semF Try.prog Try.f44 (.s .o (.s .o (.j [] (.b (.l [] (.j [] (.s .o (.s .o .o)) (.b (.s (.s .o (.s (.s .o .o) .o)) (.s .o (.s .o .o))))))) (.s .o .o)))) [.lf (.ptr p), .lf (.bool start), .lf (.bool limited), .lf (.int .u64 bw)] [.lf .bool] R) (fun w => W_pipe_Pipe_Update p start limited bw R w) := ⟨by kernel_rfl⟩
theorem call_pipe_Pipe_Update (p : Option Pt) (start : Bool) (limited : Bool) (bw : Int) (R : Rs.T [.lf .bool] → WP) (w : World) (h : W_pipe_Pipe_Update p start limited bw R w) :
    CallX Try.prog N_pipe_Pipe_Update ([.lf (.ptr p), .lf (.bool start), .lf (.bool limited), .lf (.int .u64 bw)].map V1.enc) w fun v w' => ∃ x, v = (retTV (Rs.mk [.lf .bool] x)).enc ∧ R x w' :=
  callX_of_semF Try.func44 (by kernel_rfl) (by kernel_rfl) (sem_pipe_Pipe_Update p start limited bw R) h


/-- canter/policer.New -/
def W_policer_New  (R : Rs.T [.lf .ptr] → WP) : WP :=
  new [.bool false, .bool false, .int .u64 (0:Int), .int .i64 (0:Int), .int .u64 (0:Int), .int .u64 (0:Int), .int .u64 (0:Int), .int .u64 (0:Int)] fun n1 =>
  R (some ⟨n1, 0⟩)
theorem sem_policer_New  (R : Rs.T [.lf .ptr] → WP) : Same (semF Try.prog Try.f28 (.s .o (.s .o .o)) [] [.lf .ptr] R) (fun w => W_policer_New  R w) := ⟨by kernel_rfl⟩
theorem call_policer_New  (R : Rs.T [.lf .ptr] → WP) (w : World) (h : W_policer_New  R w) :
    CallX Try.prog N_policer_New ([].map V1.enc) w fun v w' => ∃ x, v = (retTV (Rs.mk [.lf .ptr] x)).enc ∧ R x w' :=
  callX_of_semF Try.func28 (by kernel_rfl) (by kernel_rfl) (sem_policer_New  R) h


/-- (*canter/policer.Policer).Update -/
def W_policer_Policer_Update (d : Option Pt) (o : Bool) (a : T_u8b) (R : Rs.T [] → WP) : WP :=
  new (Ks.mk K_u8b a) fun n1 =>
  loop [] () fun J2 (y3 : Unit) =>
  ite' (!d.isNone) (
  drw <|
  deref d fun q4 =>
  ld [.int .u64] ⟨n1, 6⟩ fun (x5 : Int) =>
  ld [.int .u64] ⟨q4.b, q4.o + 4⟩ fun (x6 : Int) =>
  call Try.prog N_sat_Add [.lf (.int .u64 x6), .lf (.int .u64 x5)] [.lf (.int .u64)] fun (r7 : Int) =>
  deref d fun q8 =>
  st ⟨q8.b, q8.o + 4⟩ [.int .u64 r7] <|
  join [.bool] (fun J9 =>
  deref d fun q11 =>
  ld [.bool] q11 fun (x12 : Bool) =>
  ite' (!x12) (
  deref d fun q13 =>
  ld [.bool] ⟨q13.b, q13.o + 1⟩ fun (x14 : Bool) =>
  J9 (!x14)) <|
  J9 false) fun (y10 : Bool) =>
  ite' y10 (
  ld [.int .u64] ⟨n1, 6⟩ fun (x15 : Int) =>
  ite' (decide (x15 > (0:Int))) (
  ld K_u8b ⟨n1, 0⟩ fun (x16 : T_u8b) =>
  call Try.prog N_policer_Policer_begin [.lf (.ptr d), .agg (Ks.mk K_u8b x16)] [] fun (r17 : Unit) =>
  R ()) <|
  R ()) <|
  join [] (fun J18 =>
  deref d fun q20 =>
  ld [.bool] q20 fun (x21 : Bool) =>
  ite' (!x21) (
  ld [.bool] ⟨n1, 8⟩ fun (x22 : Bool) =>
  ite' x22 (
  call Try.prog N_policer_Policer_leave [.lf (.ptr d)] [] fun (r23 : Unit) =>
  R ()) <|
  J18 ()) <|
  J18 ()) fun (y19 : Unit) =>
  join [] (fun J24 =>
  ite' o (
  deref d fun q26 =>
  ld [.int .i64] ⟨q26.b, q26.o + 3⟩ fun (x27 : Int) =>
  deref d fun q28 =>
  st ⟨q28.b, q28.o + 3⟩ [.int .i64 (IntKind.i64.wrap (x27 + (1:Int)))] <|
  J24 ()) <|
  J24 ()) fun (y25 : Unit) =>
  deref d fun q29 =>
  ld [.bool] q29 fun (x30 : Bool) =>
  ite' x30 (
  join [.bool] (fun J31 =>
  ite' o (
  deref d fun q33 =>
  ld [.int .i64] ⟨q33.b, q33.o + 3⟩ fun (x34 : Int) =>
  J31 (x34 == (48:Int))) <|
  J31 false) fun (y32 : Bool) =>
  ite' y32 (
  call Try.prog N_policer_Policer_leave [.lf (.ptr d)] [] fun (r35 : Unit) =>
  deref d fun q36 =>
  st ⟨q36.b, q36.o + 3⟩ [.int .i64 (0:Int)] <|
  R ()) <|
  R ()) <|
  deref d fun q37 =>
  ld [.int .i64] ⟨q37.b, q37.o + 3⟩ fun (x38 : Int) =>
  ite' (decide (x38 > (16:Int))) (
  call Try.prog N_policer_Policer_leave [.lf (.ptr d)] [] fun (r39 : Unit) =>
  R ()) <|
  join [.bool] (fun J40 =>
  deref d fun q42 =>
  ld [.int .i64] ⟨q42.b, q42.o + 3⟩ fun (x43 : Int) =>
  ite' (decide (x43 ≥ (4:Int))) (
  ld [.int .u64] ⟨n1, 6⟩ fun (x44 : Int) =>
  J40 (decide (x44 > (0:Int)))) <|
  J40 false) fun (y41 : Bool) =>
  ite' y41 (
  ld K_u8b ⟨n1, 0⟩ fun (x45 : T_u8b) =>
  call Try.prog N_policer_Policer_end [.lf (.ptr d), .agg (Ks.mk K_u8b x45)] [] fun (r46 : Unit) =>
  R ()) <|
  R ()) <|
  R ()
theorem sem_policer_Policer_Update (d : Option Pt) (o : Bool) (a : T_u8b) (R : Rs.T [] → WP) : Same (semF Try.prog Try.f40 (.s .o (.s .o (.b (.l [] (.s (.s .o (.s .o .o)) (.b (.s (.d (.f 0 [0] (.f 1 [0] (.f 5 [5] (.f 2 [9] (.f 6 [13] (.f 3 [10] (.f 4 [11] (.w 7 [12, 14] (.f 8 [8] (.f 9 [16] (.w 10 [15, 17] .fin)))))))))))) (.s (.j [(29, .lf .bool)] .o (.s (.s (.s .o (.s .o .o)) .o) .o)) (.j [] (.s .o (.s (.s .o .o) .o)) (.j [] (.s .o (.s .o .o)) (.s (.b (.s .o (.s (.j [(67, .lf .bool)] .o (.s (.s .o .o) .o)) (.s .o (.s .o (.j [(81, .lf .bool)] .o (.s .o .o))))))) .o))))))))))) [.lf (.ptr d), .lf (.bool o), .agg (Ks.mk K_u8b a)] [] R) (fun w => W_policer_Policer_Update d o a R w) := ⟨by kernel_rfl⟩
theorem call_policer_Policer_Update (d : Option Pt) (o : Bool) (a : T_u8b) (R : Rs.T [] → WP) (w : World) (h : W_policer_Policer_Update d o a R w) :
    CallX Try.prog N_policer_Policer_Update ([.lf (.ptr d), .lf (.bool o), .agg (Ks.mk K_u8b a)].map V1.enc) w fun v w' => ∃ x, v = (retTV (Rs.mk [] x)).enc ∧ R x w' :=
  callX_of_semF Try.func40 (by kernel_rfl) (by kernel_rfl) (sem_policer_Policer_Update d o a R) h


/-- (*canter/policer.Policer).Use -/
def W_policer_Policer_Use (p : Option Pt) (R : Rs.T [.lf (.int .u64), .lf .bool] → WP) : WP :=
  join [] (fun J1 =>
  ite' p.isNone (
  R ((0:Int), false)) <|
  deref p fun q3 =>
  ld [.bool] q3 fun (x4 : Bool) =>
  ite' (!x4) (
  R ((0:Int), false)) <|
  J1 ()) fun (y2 : Unit) =>
  deref p fun q5 =>
  ld [.int .u64] ⟨q5.b, q5.o + 2⟩ fun (x6 : Int) =>
  R (x6, true)
theorem sem_policer_Policer_Use (p : Option Pt) (R : Rs.T [.lf (.int .u64), .lf .bool] → WP) : Same (semF Try.prog Try.f64 (.s .o (.j [] (.s .o (.s (.s .o .o) .o)) (.s .o .o))) [.lf (.ptr p)] [.lf (.int .u64), .lf .bool] R) (fun w => W_policer_Policer_Use p R w) := ⟨by kernel_rfl⟩
theorem call_policer_Policer_Use (p : Option Pt) (R : Rs.T [.lf (.int .u64), .lf .bool] → WP) (w : World) (h : W_policer_Policer_Use p R w) :
    CallX Try.prog N_policer_Policer_Use ([.lf (.ptr p)].map V1.enc) w fun v w' => ∃ x, v = (retTV (Rs.mk [.lf (.int .u64), .lf .bool] x)).enc ∧ R x w' :=
  callX_of_semF Try.func64 (by kernel_rfl) (by kernel_rfl) (sem_policer_Policer_Use p R) h


/-- (*canter/policer.Policer).begin -/
def W_policer_Policer_begin (p : Option Pt) (s : T_u8b) (R : Rs.T [] → WP) : WP :=
  new (Ks.mk K_u8b s) fun n1 =>
  drw <|
  ld [.int .u64] ⟨n1, 0⟩ fun (x2 : Int) =>
  ld [.int .u64] ⟨n1, 1⟩ fun (x3 : Int) =>
  deref p fun q4 =>
  ld [.int .u64] ⟨q4.b, q4.o + 4⟩ fun (x5 : Int) =>
  deref p fun q6 =>
  st ⟨q6.b, q6.o + 1⟩ [.bool true] <|
  chk ⟨n1, 1⟩ (Ks.mk [.int .u64] x3) <|
  chk ⟨n1, 0⟩ (Ks.mk [.int .u64] x2) <|
  deref p fun q7 =>
  st ⟨q7.b, q7.o + 3⟩ [.int .i64 (0:Int)] <|
  chk ⟨n1, 1⟩ (Ks.mk [.int .u64] x3) <|
  chk ⟨n1, 0⟩ (Ks.mk [.int .u64] x2) <|
  deref p fun q8 =>
  st ⟨q8.b, q8.o + 5⟩ [.int .u64 x2, .int .u64 x3, .int .u64 x5] <|
  R ()
theorem sem_policer_Policer_begin (p : Option Pt) (s : T_u8b) (R : Rs.T [] → WP) : Same (semF Try.prog Try.f67 (.s .o (.d (.f 0 [0] (.f 1 [0] (.f 2 [0] (.f 3 [3] (.f 5 [3] (.f 7 [0] (.f 4 [7] (.f 6 [9] (.f 8 [11] (.f 9 [12] (.f 10 [13] (.f 11 [8, 10, 14] (.f 12 [4] (.f 13 [16] (.w 14 [17] (.f 15 [5] (.f 16 [18] (.w 17 [19] (.f 18 [6] (.f 19 [20] (.w 20 [15, 21] .fin))))))))))))))))))))))) [.lf (.ptr p), .agg (Ks.mk K_u8b s)] [] R) (fun w => W_policer_Policer_begin p s R w) := ⟨by kernel_rfl⟩
theorem call_policer_Policer_begin (p : Option Pt) (s : T_u8b) (R : Rs.T [] → WP) (w : World) (h : W_policer_Policer_begin p s R w) :
    CallX Try.prog N_policer_Policer_begin ([.lf (.ptr p), .agg (Ks.mk K_u8b s)].map V1.enc) w fun v w' => ∃ x, v = (retTV (Rs.mk [] x)).enc ∧ R x w' :=
  callX_of_semF Try.func67 (by kernel_rfl) (by kernel_rfl) (sem_policer_Policer_begin p s R) h


/-- (*canter/policer.Policer).end -/
def W_policer_Policer_end (d : Option Pt) (o : T_u8b) (R : Rs.T [] → WP) : WP :=
  new (Ks.mk K_u8b o) fun n1 =>
  ld K_u8b ⟨n1, 0⟩ fun (x2 : T_u8b) =>
  call Try.prog N_policer_Policer_measured [.lf (.ptr d), .agg (Ks.mk K_u8b x2)] [.lf (.int .u64), .lf .bool] fun (r3 : Int × Bool) =>
  ite' (!r3.2) (
  R ()) <|
  join [.bool] (fun J4 =>
  drw <|
  deref d fun q6 =>
  ld [.int .u64] ⟨q6.b, q6.o + 2⟩ fun (x7 : Int) =>
  ite' (decide (x7 > (0:Int))) (
  deref d fun q8 =>
  deref d fun q9 =>
  ld [.int .u64] ⟨q8.b, q8.o + 2⟩ fun (x10 : Int) =>
  ld [.int .u64] ⟨q9.b, q9.o + 2⟩ fun (x11 : Int) =>
  call Try.prog N_policer_apart [.lf (.int .u64 x10), .lf (.int .u64 r3.1)] [.lf (.int .u64)] fun (r12 : Int) =>
  chk ⟨q9.b, q9.o + 2⟩ (Ks.mk [.int .u64] x11) <|
  J4 (decide (r12 ≤ (IntKind.u64.wrap (x11.tdiv (8:Int)))))) <|
  J4 false) fun (y5 : Bool) =>
  ite' y5 (
  drw <|
  deref d fun q13 =>
  deref d fun q14 =>
  ld [.int .u64] ⟨q13.b, q13.o + 2⟩ fun (x15 : Int) =>
  ld [.int .u64] ⟨q14.b, q14.o + 2⟩ fun (x16 : Int) =>
  deref d fun q17 =>
  st ⟨q17.b, q17.o + 2⟩ [.int .u64 (IntKind.u64.wrap ((IntKind.u64.wrap ((IntKind.u64.wrap (x15.tdiv (2:Int))) + (IntKind.u64.wrap (r3.1.tdiv (2:Int))))) + (IntKind.u64.wrap (BitVec.ofInt IntKind.u64.bits (IntKind.u64.wrap (BitVec.ofInt IntKind.u64.bits x16 &&& BitVec.ofInt IntKind.u64.bits r3.1).toNat) &&& BitVec.ofInt IntKind.u64.bits (1:Int)).toNat)))] <|
  deref d fun q18 =>
  st q18 [.bool true] <|
  deref d fun q19 =>
  st ⟨q19.b, q19.o + 3⟩ [.int .i64 (0:Int)] <|
  R ()) <|
  deref d fun q20 =>
  st ⟨q20.b, q20.o + 2⟩ [.int .u64 r3.1] <|
  ld K_u8b ⟨n1, 0⟩ fun (x21 : T_u8b) =>
  call Try.prog N_policer_Policer_begin [.lf (.ptr d), .agg (Ks.mk K_u8b x21)] [] fun (r22 : Unit) =>
  R ()
theorem sem_policer_Policer_end (d : Option Pt) (o : T_u8b) (R : Rs.T [] → WP) : Same (semF Try.prog Try.f69 (.s .o (.s .o (.b (.s .o (.s .o (.j [(22, .lf .bool)] (.d (.f 0 [0] (.f 1 [23] (.f 2 [24] (.f 3 [25] (.f 4 [26] (.f 5 [27] (.f 6 [0, 28] (.f 10 [4, 28] (.f 12 [0, 28] (.f 7 [28, 29] (.f 13 [28, 35] (.f 8 [28, 30] (.f 14 [28, 36] (.f 9 [28, 31] (.f 15 [28, 37] (.f 16 [28, 38] (.w 11 [28, 32, 33] (.f 17 [28, 34, 39] (.f 18 [28, 40] (.w 19 [41] .fin))))))))))))))))))))) (.s (.s (.d (.f 0 [0] (.f 1 [0] (.f 6 [4] (.f 9 [0] (.f 13 [4] (.f 2 [43] (.f 7 [48] (.f 10 [51] (.f 3 [44] (.f 11 [52] (.f 4 [45] (.f 12 [53] (.f 5 [46] (.f 14 [54, 55] (.f 8 [47, 49] (.f 15 [56] (.f 16 [50, 57] (.f 17 [42] (.f 18 [59] (.w 19 [58, 60] .fin))))))))))))))))))))) .o) (.s .o .o)))))))) [.lf (.ptr d), .agg (Ks.mk K_u8b o)] [] R) (fun w => W_policer_Policer_end d o R w) := ⟨by kernel_rfl⟩
theorem call_policer_Policer_end (d : Option Pt) (o : T_u8b) (R : Rs.T [] → WP) (w : World) (h : W_policer_Policer_end d o R w) :
    CallX Try.prog N_policer_Policer_end ([.lf (.ptr d), .agg (Ks.mk K_u8b o)].map V1.enc) w fun v w' => ∃ x, v = (retTV (Rs.mk [] x)).enc ∧ R x w' :=
  callX_of_semF Try.func69 (by kernel_rfl) (by kernel_rfl) (sem_policer_Policer_end d o R) h


/-- (*canter/policer.Policer).leave -/
def W_policer_Policer_leave (p : Option Pt) (R : Rs.T [] → WP) : WP :=
  deref p fun q1 =>
  st q1 [.bool false] <|
  deref p fun q2 =>
  st ⟨q2.b, q2.o + 1⟩ [.bool false] <|
  deref p fun q3 =>
  st ⟨q3.b, q3.o + 2⟩ [.int .u64 (0:Int)] <|
  R ()
theorem sem_policer_Policer_leave (p : Option Pt) (R : Rs.T [] → WP) : Same (semF Try.prog Try.f68 .o [.lf (.ptr p)] [] R) (fun w => W_policer_Policer_leave p R w) := ⟨by kernel_rfl⟩
theorem call_policer_Policer_leave (p : Option Pt) (R : Rs.T [] → WP) (w : World) (h : W_policer_Policer_leave p R w) :
    CallX Try.prog N_policer_Policer_leave ([.lf (.ptr p)].map V1.enc) w fun v w' => ∃ x, v = (retTV (Rs.mk [] x)).enc ∧ R x w' :=
  callX_of_semF Try.func68 (by kernel_rfl) (by kernel_rfl) (sem_policer_Policer_leave p R) h


/-- (*canter/policer.Policer).measured -/
def W_policer_Policer_measured (p : Option Pt) (s : T_u8b) (R : Rs.T [.lf (.int .u64), .lf .bool] → WP) : WP :=
  new (Ks.mk K_u8b s) fun n1 =>
  drw <|
  ld [.int .u64] ⟨n1, 1⟩ fun (x2 : Int) =>
  deref p fun q3 =>
  deref p fun q4 =>
  deref p fun q5 =>
  ld [.int .u64] ⟨n1, 0⟩ fun (x6 : Int) =>
  deref p fun q7 =>
  ld [.int .u64] ⟨q4.b, q4.o + 4⟩ fun (x8 : Int) =>
  ld [.int .u64] ⟨q3.b, q3.o + 6⟩ fun (x9 : Int) =>
  ld [.int .u64] ⟨q5.b, q5.o + 7⟩ fun (x10 : Int) =>
  ld [.int .u64] ⟨q7.b, q7.o + 5⟩ fun (x11 : Int) =>
  call Try.prog N_sat_Sub [.lf (.int .u64 x2), .lf (.int .u64 x9)] [.lf (.int .u64)] fun (r12 : Int) =>
  chk ⟨q7.b, q7.o + 5⟩ (Ks.mk [.int .u64] x11) <|
  chk ⟨q5.b, q5.o + 7⟩ (Ks.mk [.int .u64] x10) <|
  chk ⟨q4.b, q4.o + 4⟩ (Ks.mk [.int .u64] x8) <|
  chk ⟨n1, 0⟩ (Ks.mk [.int .u64] x6) <|
  call Try.prog N_sat_Sub [.lf (.int .u64 x8), .lf (.int .u64 x10)] [.lf (.int .u64)] fun (r13 : Int) =>
  chk ⟨q7.b, q7.o + 5⟩ (Ks.mk [.int .u64] x11) <|
  chk ⟨n1, 0⟩ (Ks.mk [.int .u64] x6) <|
  call Try.prog N_sat_Sub [.lf (.int .u64 x6), .lf (.int .u64 x11)] [.lf (.int .u64)] fun (r14 : Int) =>
  ite' ((r12 == (0:Int)) || (r14 == (0:Int))) (
  R ((0:Int), false)) <|
  call Try.prog N_wide_MulDiv [.lf (.int .u64 r12), .lf (.int .u64 (50:Int)), .lf (.int .u64 (256:Int))] [.lf (.int .u64)] fun (r15 : Int) =>
  ite' (decide (r13 < r15)) (
  R ((0:Int), false)) <|
  call Try.prog N_wide_MulDiv [.lf (.int .u64 r12), .lf (.int .u64 (1000000000:Int)), .lf (.int .u64 r14)] [.lf (.int .u64)] fun (r16 : Int) =>
  R (r16, true)
theorem sem_policer_Policer_measured (p : Option Pt) (s : T_u8b) (R : Rs.T [.lf (.int .u64), .lf .bool] → WP) : Same (semF Try.prog Try.f95 (.s .o (.s (.d (.f 0 [3] (.f 2 [0] (.f 8 [0] (.f 12 [0] (.f 18 [3] (.f 20 [0] (.f 1 [9] (.f 3 [11] (.f 9 [17] (.f 13 [21] (.f 19 [27] (.f 21 [29] (.f 4 [12] (.f 10 [18] (.f 14 [22] (.f 22 [30] (.f 5 [13] (.f 11 [19] (.f 15 [23] (.f 23 [31] (.f 6 [14] (.f 16 [24] (.f 24 [32] (.w 7 [10, 15] (.w 17 [20, 25] (.w 25 [28, 33] (.w 26 [16] (.w 27 [26] (.w 28 [34] .fin)))))))))))))))))))))))))))))) (.s (.s .o (.s (.s .o .o) .o)) (.s .o .o)))) [.lf (.ptr p), .agg (Ks.mk K_u8b s)] [.lf (.int .u64), .lf .bool] R) (fun w => W_policer_Policer_measured p s R w) := ⟨by kernel_rfl⟩
theorem call_policer_Policer_measured (p : Option Pt) (s : T_u8b) (R : Rs.T [.lf (.int .u64), .lf .bool] → WP) (w : World) (h : W_policer_Policer_measured p s R w) :
    CallX Try.prog N_policer_Policer_measured ([.lf (.ptr p), .agg (Ks.mk K_u8b s)].map V1.enc) w fun v w' => ∃ x, v = (retTV (Rs.mk [.lf (.int .u64), .lf .bool] x)).enc ∧ R x w' :=
  callX_of_semF Try.func95 (by kernel_rfl) (by kernel_rfl) (sem_policer_Policer_measured p s R) h


/-- canter/policer.apart -/
def W_policer_apart (a : Int) (b : Int) (R : Rs.T [.lf (.int .u64)] → WP) : WP :=
  R (IntKind.u64.wrap ((if b > a then b else a) - (if b < a then b else a)))
theorem sem_policer_apart (a : Int) (b : Int) (R : Rs.T [.lf (.int .u64)] → WP) : Same (semF Try.prog Try.f96 (.s .o (.s .o .o)) [.lf (.int .u64 a), .lf (.int .u64 b)] [.lf (.int .u64)] R) (fun w => W_policer_apart a b R w) := ⟨by kernel_rfl⟩
theorem call_policer_apart (a : Int) (b : Int) (R : Rs.T [.lf (.int .u64)] → WP) (w : World) (h : W_policer_apart a b R w) :
    CallX Try.prog N_policer_apart ([.lf (.int .u64 a), .lf (.int .u64 b)].map V1.enc) w fun v w' => ∃ x, v = (retTV (Rs.mk [.lf (.int .u64)] x)).enc ∧ R x w' :=
  callX_of_semF Try.func96 (by kernel_rfl) (by kernel_rfl) (sem_policer_apart a b R) h


/-- canter/probe.New -/
def W_probe_New  (R : Rs.T [.lf .ptr] → WP) : WP :=
  new [.int .u64 (0:Int), .int .u64 (0:Int), .bool false, .int .u64 (0:Int), .bool false] fun n1 =>
  R (some ⟨n1, 0⟩)
theorem sem_probe_New  (R : Rs.T [.lf .ptr] → WP) : Same (semF Try.prog Try.f27 (.s .o (.s .o .o)) [] [.lf .ptr] R) (fun w => W_probe_New  R w) := ⟨by kernel_rfl⟩
theorem call_probe_New  (R : Rs.T [.lf .ptr] → WP) (w : World) (h : W_probe_New  R w) :
    CallX Try.prog N_probe_New ([].map V1.enc) w fun v w' => ∃ x, v = (retTV (Rs.mk [.lf .ptr] x)).enc ∧ R x w' :=
  callX_of_semF Try.func27 (by kernel_rfl) (by kernel_rfl) (sem_probe_New  R) h


/-- (*canter/probe.Probe).Best -/
def W_probe_Probe_Best (p : Option Pt) (R : Rs.T [.lf (.int .u64)] → WP) : WP :=
  ite' p.isNone (
  R (0:Int)) <|
  deref p fun q1 =>
  ld [.int .u64] q1 fun (x2 : Int) =>
  R x2
theorem sem_probe_Probe_Best (p : Option Pt) (R : Rs.T [.lf (.int .u64)] → WP) : Same (semF Try.prog Try.f32 (.s .o (.s (.s .o (.s (.s .o .o) .o)) (.s .o .o))) [.lf (.ptr p)] [.lf (.int .u64)] R) (fun w => W_probe_Probe_Best p R w) := ⟨by kernel_rfl⟩
theorem call_probe_Probe_Best (p : Option Pt) (R : Rs.T [.lf (.int .u64)] → WP) (w : World) (h : W_probe_Probe_Best p R w) :
    CallX Try.prog N_probe_Probe_Best ([.lf (.ptr p)].map V1.enc) w fun v w' => ∃ x, v = (retTV (Rs.mk [.lf (.int .u64)] x)).enc ∧ R x w' :=
  callX_of_semF Try.func32 (by kernel_rfl) (by kernel_rfl) (sem_probe_Probe_Best p R) h


/-- (*canter/probe.Probe).Update -/
def W_probe_Probe_Update (d : Option Pt) (o : Int) (a : Int) (a' : Bool) (a'' : Int) (a''' : Int) (R : Rs.T [.lf .bool, .lf .bool] → WP) : WP :=
  loop [.bool, .bool] (false, false) fun J1 (y2 : Bool × Bool) =>
  ite' (!d.isNone) (
  join [.bool] (fun J3 =>
  deref d fun q5 =>
  ld [.int .u64] q5 fun (x6 : Int) =>
  ite' (decide (x6 > (0:Int))) (
  deref d fun q7 =>
  ld [.int .u64] ⟨q7.b, q7.o + 1⟩ fun (x8 : Int) =>
  call Try.prog N_sat_Add [.lf (.int .u64 x8), .lf (.int .u64 (10000000000:Int))] [.lf (.int .u64)] fun (r9 : Int) =>
  J3 (decide (o > r9))) <|
  J3 false) fun (y4 : Bool) =>
  join [] (fun J10 =>
  join [.bool] (fun J12 =>
  ite' (decide (a > (0:Int))) (
  deref d fun q14 =>
  ld [.int .u64] q14 fun (x15 : Int) =>
  ite' (x15 == (0:Int)) (
  J12 true) <|
  deref d fun q16 =>
  ld [.int .u64] q16 fun (x17 : Int) =>
  J12 ((decide (a ≤ x17)) || y4)) <|
  J12 false) fun (y13 : Bool) =>
  ite' y13 (
  deref d fun q18 =>
  st q18 [.int .u64 a] <|
  deref d fun q19 =>
  st ⟨q19.b, q19.o + 1⟩ [.int .u64 o] <|
  J10 ()) <|
  J10 ()) fun (y11 : Unit) =>
  join [.bool] (fun J20 =>
  ite' y4 (
  deref d fun q22 =>
  ld [.bool] ⟨q22.b, q22.o + 2⟩ fun (x23 : Bool) =>
  J20 (!x23)) <|
  J20 false) fun (y21 : Bool) =>
  ite' y21 (
  deref d fun q24 =>
  st ⟨q24.b, q24.o + 2⟩ [.bool true] <|
  deref d fun q25 =>
  st ⟨q25.b, q25.o + 3⟩ [.int .u64 (0:Int)] <|
  deref d fun q26 =>
  st ⟨q26.b, q26.o + 4⟩ [.bool false] <|
  R (true, y2.2)) <|
  deref d fun q27 =>
  ld [.bool] ⟨q27.b, q27.o + 2⟩ fun (x28 : Bool) =>
  ite' x28 (
  call Try.prog N_probe_Probe_leaves [.lf (.ptr d), .lf (.int .u64 o), .lf (.bool a'), .lf (.int .u64 a''), .lf (.int .u64 a''')] [.lf .bool] fun (r29 : Bool) =>
  R (y2.1, r29)) <|
  R (y2.1, false)) <|
  R (y2.1, y2.2)
theorem sem_probe_Probe_Update (d : Option Pt) (o : Int) (a : Int) (a' : Bool) (a'' : Int) (a''' : Int) (R : Rs.T [.lf .bool, .lf .bool] → WP) : Same (semF Try.prog Try.f77 (.s .o (.s .o (.s .o (.s (.b (.l [(14, .lf .bool), (15, .lf .bool)] (.s (.s .o (.s .o .o)) (.b (.j [(16, .lf .bool)] .o (.j [] (.j [(52, .lf .bool)] .o (.s .o .o)) (.s (.j [(68, .lf .bool)] .o (.s (.s .o (.s .o .o)) .o)) (.s .o .o)))))))) (.s .o .o))))) [.lf (.ptr d), .lf (.int .u64 o), .lf (.int .u64 a), .lf (.bool a'), .lf (.int .u64 a''), .lf (.int .u64 a''')] [.lf .bool, .lf .bool] R) (fun w => W_probe_Probe_Update d o a a' a'' a''' R w) := ⟨by kernel_rfl⟩
theorem call_probe_Probe_Update (d : Option Pt) (o : Int) (a : Int) (a' : Bool) (a'' : Int) (a''' : Int) (R : Rs.T [.lf .bool, .lf .bool] → WP) (w : World) (h : W_probe_Probe_Update d o a a' a'' a''' R w) :
    CallX Try.prog N_probe_Probe_Update ([.lf (.ptr d), .lf (.int .u64 o), .lf (.int .u64 a), .lf (.bool a'), .lf (.int .u64 a''), .lf (.int .u64 a''')].map V1.enc) w fun v w' => ∃ x, v = (retTV (Rs.mk [.lf .bool, .lf .bool] x)).enc ∧ R x w' :=
  callX_of_semF Try.func77 (by kernel_rfl) (by kernel_rfl) (sem_probe_Probe_Update d o a a' a'' a''' R) h


/-- (*canter/probe.Probe).leaves -/
def W_probe_Probe_leaves (p : Option Pt) (now : Int) (start : Bool) (flight : Int) (floor : Int) (R : Rs.T [.lf .bool] → WP) : WP :=
  deref p fun q1 =>
  ld [.int .u64] ⟨q1.b, q1.o + 3⟩ fun (x2 : Int) =>
  ite' (x2 == (0:Int)) (
  ite' (decide (flight ≤ floor)) (
  call Try.prog N_sat_Add [.lf (.int .u64 now), .lf (.int .u64 (200000000:Int))] [.lf (.int .u64)] fun (r3 : Int) =>
  deref p fun q4 =>
  st ⟨q4.b, q4.o + 3⟩ [.int .u64 r3] <|
  deref p fun q5 =>
  st ⟨q5.b, q5.o + 4⟩ [.bool false] <|
  R false) <|
  R false) <|
  deref p fun q6 =>
  ld [.bool] ⟨q6.b, q6.o + 4⟩ fun (x7 : Bool) =>
  deref p fun q8 =>
  st ⟨q8.b, q8.o + 4⟩ [.bool (x7 || start)] <|
  join [] (fun J9 =>
  deref p fun q11 =>
  ld [.bool] ⟨q11.b, q11.o + 4⟩ fun (x12 : Bool) =>
  ite' (!x12) (
  R false) <|
  deref p fun q13 =>
  ld [.int .u64] ⟨q13.b, q13.o + 3⟩ fun (x14 : Int) =>
  ite' (decide (now ≤ x14)) (
  R false) <|
  J9 ()) fun (y10 : Unit) =>
  deref p fun q15 =>
  st ⟨q15.b, q15.o + 1⟩ [.int .u64 now] <|
  deref p fun q16 =>
  st ⟨q16.b, q16.o + 2⟩ [.bool false] <|
  R true
theorem sem_probe_Probe_leaves (p : Option Pt) (now : Int) (start : Bool) (flight : Int) (floor : Int) (R : Rs.T [.lf .bool] → WP) : Same (semF Try.prog Try.f103 (.s .o (.s (.s .o (.s (.s (.s .o (.s .o .o)) (.s .o .o)) .o)) (.s .o (.j [] (.s .o (.s (.s .o .o) .o)) (.s .o (.s .o .o)))))) [.lf (.ptr p), .lf (.int .u64 now), .lf (.bool start), .lf (.int .u64 flight), .lf (.int .u64 floor)] [.lf .bool] R) (fun w => W_probe_Probe_leaves p now start flight floor R w) := ⟨by kernel_rfl⟩
theorem call_probe_Probe_leaves (p : Option Pt) (now : Int) (start : Bool) (flight : Int) (floor : Int) (R : Rs.T [.lf .bool] → WP) (w : World) (h : W_probe_Probe_leaves p now start flight floor R w) :
    CallX Try.prog N_probe_Probe_leaves ([.lf (.ptr p), .lf (.int .u64 now), .lf (.bool start), .lf (.int .u64 flight), .lf (.int .u64 floor)].map V1.enc) w fun v w' => ∃ x, v = (retTV (Rs.mk [.lf .bool] x)).enc ∧ R x w' :=
  callX_of_semF Try.func103 (by kernel_rfl) (by kernel_rfl) (sem_probe_Probe_leaves p now start flight floor R) h


/-- canter/rounds.New -/
def W_rounds_New  (R : Rs.T [.lf .ptr] → WP) : WP :=
  new [.int .u64 (0:Int), .int .u64 (0:Int)] fun n1 =>
  R (some ⟨n1, 0⟩)
theorem sem_rounds_New  (R : Rs.T [.lf .ptr] → WP) : Same (semF Try.prog Try.f24 (.s .o (.s .o .o)) [] [.lf .ptr] R) (fun w => W_rounds_New  R w) := ⟨by kernel_rfl⟩
theorem call_rounds_New  (R : Rs.T [.lf .ptr] → WP) (w : World) (h : W_rounds_New  R w) :
    CallX Try.prog N_rounds_New ([].map V1.enc) w fun v w' => ∃ x, v = (retTV (Rs.mk [.lf .ptr] x)).enc ∧ R x w' :=
  callX_of_semF Try.func24 (by kernel_rfl) (by kernel_rfl) (sem_rounds_New  R) h


/-- (*canter/rounds.Rounds).Count -/
def W_rounds_Rounds_Count (r : Option Pt) (R : Rs.T [.lf (.int .u64)] → WP) : WP :=
  ite' r.isNone (
  R (0:Int)) <|
  deref r fun q1 =>
  ld [.int .u64] q1 fun (x2 : Int) =>
  R x2
theorem sem_rounds_Rounds_Count (r : Option Pt) (R : Rs.T [.lf (.int .u64)] → WP) : Same (semF Try.prog Try.f34 (.s .o (.s (.s .o (.s (.s .o .o) .o)) (.s .o .o))) [.lf (.ptr r)] [.lf (.int .u64)] R) (fun w => W_rounds_Rounds_Count r R w) := ⟨by kernel_rfl⟩
theorem call_rounds_Rounds_Count (r : Option Pt) (R : Rs.T [.lf (.int .u64)] → WP) (w : World) (h : W_rounds_Rounds_Count r R w) :
    CallX Try.prog N_rounds_Rounds_Count ([.lf (.ptr r)].map V1.enc) w fun v w' => ∃ x, v = (retTV (Rs.mk [.lf (.int .u64)] x)).enc ∧ R x w' :=
  callX_of_semF Try.func34 (by kernel_rfl) (by kernel_rfl) (sem_rounds_Rounds_Count r R) h


/-- (*canter/rounds.Rounds).Update -/
def W_rounds_Rounds_Update (r : Option Pt) (s : T_u8b) (R : Rs.T [.lf .bool] → WP) : WP :=
  new (Ks.mk K_u8b s) fun n1 =>
  loop [.bool] false fun J2 (y3 : Bool) =>
  join [] (fun J4 =>
  ite' (!r.isNone) (
  ld [.int .u64] ⟨n1, 5⟩ fun (x6 : Int) =>
  ite' (decide (x6 > (0:Int))) (
  J4 ()) <|
  R y3) <|
  R y3) fun (y5 : Unit) =>
  drw <|
  ld [.int .u64] ⟨n1, 2⟩ fun (x7 : Int) =>
  deref r fun q8 =>
  ld [.int .u64] ⟨q8.b, q8.o + 1⟩ fun (x9 : Int) =>
  ite' (decide (x7 < x9)) (
  R y3) <|
  ld [.int .u64] ⟨n1, 1⟩ fun (x10 : Int) =>
  deref r fun q11 =>
  st ⟨q11.b, q11.o + 1⟩ [.int .u64 x10] <|
  deref r fun q12 =>
  ld [.int .u64] q12 fun (x13 : Int) =>
  deref r fun q14 =>
  st q14 [.int .u64 (IntKind.u64.wrap (x13 + (1:Int)))] <|
  R true
theorem sem_rounds_Rounds_Update (r : Option Pt) (s : T_u8b) (R : Rs.T [.lf .bool] → WP) : Same (semF Try.prog Try.f39 (.s .o (.s .o (.s .o (.s (.b (.l [(5, .lf .bool)] (.j [] (.s .o (.s .o .o)) (.b (.s (.s (.d (.f 0 [3] (.f 2 [0] (.f 1 [13] (.f 3 [15] (.f 4 [16] (.f 5 [17] (.f 6 [14, 18] .fin)))))))) (.s .o .o)) (.s .o (.s .o .o))))))) (.s .o .o))))) [.lf (.ptr r), .agg (Ks.mk K_u8b s)] [.lf .bool] R) (fun w => W_rounds_Rounds_Update r s R w) := ⟨by kernel_rfl⟩
theorem call_rounds_Rounds_Update (r : Option Pt) (s : T_u8b) (R : Rs.T [.lf .bool] → WP) (w : World) (h : W_rounds_Rounds_Update r s R w) :
    CallX Try.prog N_rounds_Rounds_Update ([.lf (.ptr r), .agg (Ks.mk K_u8b s)].map V1.enc) w fun v w' => ∃ x, v = (retTV (Rs.mk [.lf .bool] x)).enc ∧ R x w' :=
  callX_of_semF Try.func39 (by kernel_rfl) (by kernel_rfl) (sem_rounds_Rounds_Update r s R) h


/-- canter/sat.Add -/
def W_sat_Add (a : Int) (b : Int) (R : Rs.T [.lf (.int .u64)] → WP) : WP :=
  call Try.prog N_math_bits_Add64 [.lf (.int .u64 a), .lf (.int .u64 b), .lf (.int .u64 (0:Int))] [.lf (.int .u64), .lf (.int .u64)] fun (r1 : Int × Int) =>
  ite' (decide (r1.2 > (0:Int))) (
  R (18446744073709551615:Int)) <|
  R r1.1
theorem sem_sat_Add (a : Int) (b : Int) (R : Rs.T [.lf (.int .u64)] → WP) : Same (semF Try.prog Try.f66 (.s .o (.s .o (.s (.s .o (.s (.s .o .o) .o)) (.s .o .o)))) [.lf (.int .u64 a), .lf (.int .u64 b)] [.lf (.int .u64)] R) (fun w => W_sat_Add a b R w) := ⟨by kernel_rfl⟩
theorem call_sat_Add (a : Int) (b : Int) (R : Rs.T [.lf (.int .u64)] → WP) (w : World) (h : W_sat_Add a b R w) :
    CallX Try.prog N_sat_Add ([.lf (.int .u64 a), .lf (.int .u64 b)].map V1.enc) w fun v w' => ∃ x, v = (retTV (Rs.mk [.lf (.int .u64)] x)).enc ∧ R x w' :=
  callX_of_semF Try.func66 (by kernel_rfl) (by kernel_rfl) (sem_sat_Add a b R) h


/-- canter/sat.Mul -/
def W_sat_Mul (a : Int) (b : Int) (R : Rs.T [.lf (.int .u64)] → WP) : WP :=
  call Try.prog N_math_bits_Mul64 [.lf (.int .u64 a), .lf (.int .u64 b)] [.lf (.int .u64), .lf (.int .u64)] fun (r1 : Int × Int) =>
  ite' (decide (r1.1 > (0:Int))) (
  R (18446744073709551615:Int)) <|
  R r1.2
theorem sem_sat_Mul (a : Int) (b : Int) (R : Rs.T [.lf (.int .u64)] → WP) : Same (semF Try.prog Try.f104 (.s .o (.s .o (.s (.s .o (.s (.s .o .o) .o)) (.s .o .o)))) [.lf (.int .u64 a), .lf (.int .u64 b)] [.lf (.int .u64)] R) (fun w => W_sat_Mul a b R w) := ⟨by kernel_rfl⟩
theorem call_sat_Mul (a : Int) (b : Int) (R : Rs.T [.lf (.int .u64)] → WP) (w : World) (h : W_sat_Mul a b R w) :
    CallX Try.prog N_sat_Mul ([.lf (.int .u64 a), .lf (.int .u64 b)].map V1.enc) w fun v w' => ∃ x, v = (retTV (Rs.mk [.lf (.int .u64)] x)).enc ∧ R x w' :=
  callX_of_semF Try.func104 (by kernel_rfl) (by kernel_rfl) (sem_sat_Mul a b R) h


/-- canter/sat.Sub -/
def W_sat_Sub (a : Int) (b : Int) (R : Rs.T [.lf (.int .u64)] → WP) : WP :=
  R (IntKind.u64.wrap (a - (if b < a then b else a)))
theorem sem_sat_Sub (a : Int) (b : Int) (R : Rs.T [.lf (.int .u64)] → WP) : Same (semF Try.prog Try.f71 (.s .o (.s .o .o)) [.lf (.int .u64 a), .lf (.int .u64 b)] [.lf (.int .u64)] R) (fun w => W_sat_Sub a b R w) := ⟨by kernel_rfl⟩
theorem call_sat_Sub (a : Int) (b : Int) (R : Rs.T [.lf (.int .u64)] → WP) (w : World) (h : W_sat_Sub a b R w) :
    CallX Try.prog N_sat_Sub ([.lf (.int .u64 a), .lf (.int .u64 b)].map V1.enc) w fun v w' => ∃ x, v = (retTV (Rs.mk [.lf (.int .u64)] x)).enc ∧ R x w' :=
  callX_of_semF Try.func71 (by kernel_rfl) (by kernel_rfl) (sem_sat_Sub a b R) h


/-- canter/target.Bdp -/
def W_target_Bdp (bw : Int) (rtt : Int) (gain : Int) (R : Rs.T [.lf (.int .u64)] → WP) : WP :=
  new [.int .u64 rtt, .int .u64 (1000000000:Int), .int .u64 gain, .int .u64 (256:Int)] fun n1 =>
  call Try.prog N_target_scaled [.lf (.int .u64 bw), .lf (.sl ⟨some ⟨n1, 0⟩, 2, 2⟩)] [.lf (.int .u64)] fun (r2 : Int) =>
  R r2
theorem sem_target_Bdp (bw : Int) (rtt : Int) (gain : Int) (R : Rs.T [.lf (.int .u64)] → WP) : Same (semF Try.prog Try.f75 (.s .o (.s .o .o)) [.lf (.int .u64 bw), .lf (.int .u64 rtt), .lf (.int .u64 gain)] [.lf (.int .u64)] R) (fun w => W_target_Bdp bw rtt gain R w) := ⟨by kernel_rfl⟩
theorem call_target_Bdp (bw : Int) (rtt : Int) (gain : Int) (R : Rs.T [.lf (.int .u64)] → WP) (w : World) (h : W_target_Bdp bw rtt gain R w) :
    CallX Try.prog N_target_Bdp ([.lf (.int .u64 bw), .lf (.int .u64 rtt), .lf (.int .u64 gain)].map V1.enc) w fun v w' => ∃ x, v = (retTV (Rs.mk [.lf (.int .u64)] x)).enc ∧ R x w' :=
  callX_of_semF Try.func75 (by kernel_rfl) (by kernel_rfl) (sem_target_Bdp bw rtt gain R) h


/-- canter/target.Rate -/
def W_target_Rate (bw : Int) (gain : Int) (R : Rs.T [.lf (.int .u64)] → WP) : WP :=
  new [.int .u64 gain, .int .u64 (256:Int)] fun n1 =>
  call Try.prog N_target_scaled [.lf (.int .u64 bw), .lf (.sl ⟨some ⟨n1, 0⟩, 1, 1⟩)] [.lf (.int .u64)] fun (r2 : Int) =>
  R r2
theorem sem_target_Rate (bw : Int) (gain : Int) (R : Rs.T [.lf (.int .u64)] → WP) : Same (semF Try.prog Try.f29 (.s .o (.s .o .o)) [.lf (.int .u64 bw), .lf (.int .u64 gain)] [.lf (.int .u64)] R) (fun w => W_target_Rate bw gain R w) := ⟨by kernel_rfl⟩
theorem call_target_Rate (bw : Int) (gain : Int) (R : Rs.T [.lf (.int .u64)] → WP) (w : World) (h : W_target_Rate bw gain R w) :
    CallX Try.prog N_target_Rate ([.lf (.int .u64 bw), .lf (.int .u64 gain)].map V1.enc) w fun v w' => ∃ x, v = (retTV (Rs.mk [.lf (.int .u64)] x)).enc ∧ R x w' :=
  callX_of_semF Try.func29 (by kernel_rfl) (by kernel_rfl) (sem_target_Rate bw gain R) h


/-- canter/target.Window -/
def W_target_Window (bw : Int) (rtt : Int) (gain : Int) (tso : Int) (mss : Int) (R : Rs.T [.lf (.int .u64)] → WP) : WP :=
  ite' (rtt == (0:Int)) (
  call Try.prog N_sat_Mul [.lf (.int .u64 (10:Int)), .lf (.int .u64 mss)] [.lf (.int .u64)] fun (r1 : Int) =>
  R r1) <|
  call Try.prog N_target_Bdp [.lf (.int .u64 bw), .lf (.int .u64 rtt), .lf (.int .u64 gain)] [.lf (.int .u64)] fun (r2 : Int) =>
  call Try.prog N_sat_Mul [.lf (.int .u64 (3:Int)), .lf (.int .u64 tso)] [.lf (.int .u64)] fun (r3 : Int) =>
  call Try.prog N_sat_Add [.lf (.int .u64 r2), .lf (.int .u64 r3)] [.lf (.int .u64)] fun (r4 : Int) =>
  call Try.prog N_sat_Mul [.lf (.int .u64 (4:Int)), .lf (.int .u64 mss)] [.lf (.int .u64)] fun (r5 : Int) =>
  R (if r5 > r4 then r5 else r4)
theorem sem_target_Window (bw : Int) (rtt : Int) (gain : Int) (tso : Int) (mss : Int) (R : Rs.T [.lf (.int .u64)] → WP) : Same (semF Try.prog Try.f80 (.s .o (.s (.s .o (.s (.s .o .o) .o)) (.s .o .o))) [.lf (.int .u64 bw), .lf (.int .u64 rtt), .lf (.int .u64 gain), .lf (.int .u64 tso), .lf (.int .u64 mss)] [.lf (.int .u64)] R) (fun w => W_target_Window bw rtt gain tso mss R w) := ⟨by kernel_rfl⟩
theorem call_target_Window (bw : Int) (rtt : Int) (gain : Int) (tso : Int) (mss : Int) (R : Rs.T [.lf (.int .u64)] → WP) (w : World) (h : W_target_Window bw rtt gain tso mss R w) :
    CallX Try.prog N_target_Window ([.lf (.int .u64 bw), .lf (.int .u64 rtt), .lf (.int .u64 gain), .lf (.int .u64 tso), .lf (.int .u64 mss)].map V1.enc) w fun v w' => ∃ x, v = (retTV (Rs.mk [.lf (.int .u64)] x)).enc ∧ R x w' :=
  callX_of_semF Try.func80 (by kernel_rfl) (by kernel_rfl) (sem_target_Window bw rtt gain tso mss R) h


/-- canter/target.scaled -/
def W_target_scaled (v : Int) (l : Sl) (R : Rs.T [.lf (.int .u64)] → WP) : WP :=
  loop [.int .u64, .int .i64] (v, (0:Int)) fun J1 (y2 : Int × Int) =>
  ite' (decide (y2.2 < ((l.len : Nat) : Int))) (
  idx l y2.2 2 fun q3 =>
  ld [.int .u64, .int .u64] q3 fun (x4 : Int × Int) =>
  new [.int .u64 (0:Int), .int .u64 (0:Int)] fun n5 =>
  st ⟨n5, 0⟩ (Ks.mk [.int .u64, .int .u64] x4) <|
  ite' (y2.1 == (0:Int)) (
  R y2.1) <|
  req (0 ≤ (0:Int) ∧ (0:Int) < 2) <|
  ld [.int .u64] ⟨n5, 0 + (0:Int).toNat * 1⟩ fun (x6 : Int) =>
  req (0 ≤ (1:Int) ∧ (1:Int) < 2) <|
  ld [.int .u64] ⟨n5, 0 + (1:Int).toNat * 1⟩ fun (x7 : Int) =>
  call Try.prog N_wide_MulDiv [.lf (.int .u64 y2.1), .lf (.int .u64 x6), .lf (.int .u64 x7)] [.lf (.int .u64)] fun (r8 : Int) =>
  J1 (r8, (IntKind.i64.wrap (y2.2 + (1:Int))))) <|
  R y2.1
theorem sem_target_scaled (v : Int) (l : Sl) (R : Rs.T [.lf (.int .u64)] → WP) : Same (semF Try.prog Try.f63 (.s .o (.s .o (.s (.s .o (.b (.l [(0, .lf (.int .u64)), (9, .lf (.int .i64))] (.s .o (.s (.s .o .o) (.s (.b (.s .o (.s (.s .o (.s .o .o)) .o))) .o)))))) (.s .o .o)))) [.lf (.int .u64 v), .lf (.sl l)] [.lf (.int .u64)] R) (fun w => W_target_scaled v l R w) := ⟨by kernel_rfl⟩
theorem call_target_scaled (v : Int) (l : Sl) (R : Rs.T [.lf (.int .u64)] → WP) (w : World) (h : W_target_scaled v l R w) :
    CallX Try.prog N_target_scaled ([.lf (.int .u64 v), .lf (.sl l)].map V1.enc) w fun v w' => ∃ x, v = (retTV (Rs.mk [.lf (.int .u64)] x)).enc ∧ R x w' :=
  callX_of_semF Try.func63 (by kernel_rfl) (by kernel_rfl) (sem_target_scaled v l R) h


/-- canter/wide.Div -/
def W_wide_Div (hi : Int) (lo : Int) (c : Int) (R : Rs.T [.lf (.int .u64), .lf (.int .i64)] → WP) : WP :=
  ite' (c == (0:Int)) (
  R ((0:Int), (1:Int))) <|
  ite' (decide (hi ≥ c)) (
  R ((0:Int), (3:Int))) <|
  loop K_u3i (hi, lo, (0:Int), (0:Int)) fun J1 (y2 : T_u3i) =>
  ite' (y2.2.2.2 == (64:Int)) (
  R (y2.2.2.1, (0:Int))) <|
  req (0 ≤ (63:Int)) <|
  req (0 ≤ (1:Int)) <|
  req (0 ≤ (63:Int)) <|
  req (0 ≤ (1:Int)) <|
  req (0 ≤ (1:Int)) <|
  ite' (((y2.1.fdiv (2 ^ min (63:Int).toNat IntKind.u64.bits)) == (0:Int)) && (decide ((IntKind.u64.wrap (BitVec.ofInt IntKind.u64.bits (IntKind.u64.wrap (y2.1 * 2 ^ min (1:Int).toNat IntKind.u64.bits)) ||| BitVec.ofInt IntKind.u64.bits (y2.2.1.fdiv (2 ^ min (63:Int).toNat IntKind.u64.bits))).toNat) < c))) (
  J1 ((IntKind.u64.wrap (BitVec.ofInt IntKind.u64.bits (IntKind.u64.wrap (y2.1 * 2 ^ min (1:Int).toNat IntKind.u64.bits)) ||| BitVec.ofInt IntKind.u64.bits (y2.2.1.fdiv (2 ^ min (63:Int).toNat IntKind.u64.bits))).toNat), (IntKind.u64.wrap (y2.2.1 * 2 ^ min (1:Int).toNat IntKind.u64.bits)), (IntKind.u64.wrap (y2.2.2.1 * 2 ^ min (1:Int).toNat IntKind.u64.bits)), (IntKind.i64.wrap (y2.2.2.2 + (1:Int))))) <|
  J1 ((IntKind.u64.wrap ((IntKind.u64.wrap (BitVec.ofInt IntKind.u64.bits (IntKind.u64.wrap (y2.1 * 2 ^ min (1:Int).toNat IntKind.u64.bits)) ||| BitVec.ofInt IntKind.u64.bits (y2.2.1.fdiv (2 ^ min (63:Int).toNat IntKind.u64.bits))).toNat) - c)), (IntKind.u64.wrap (y2.2.1 * 2 ^ min (1:Int).toNat IntKind.u64.bits)), (IntKind.u64.wrap (BitVec.ofInt IntKind.u64.bits (IntKind.u64.wrap (y2.2.2.1 * 2 ^ min (1:Int).toNat IntKind.u64.bits)) ||| BitVec.ofInt IntKind.u64.bits (1:Int)).toNat), (IntKind.i64.wrap (y2.2.2.2 + (1:Int))))
theorem sem_wide_Div (hi : Int) (lo : Int) (c : Int) (R : Rs.T [.lf (.int .u64), .lf (.int .i64)] → WP) : Same (semF Try.prog Try.f98 (.s .o (.s (.b (.s .o (.s (.s .o .o) (.s .o (.s (.s .o .o) .o))))) (.s .o (.s .o (.s .o (.s (.b (.l [(0, .lf (.int .u64)), (1, .lf (.int .u64)), (8, .lf (.int .u64)), (9, .lf (.int .i64))] (.b (.s (.s .o (.s .o .o)) (.s .o (.s .o (.s .o (.s (.s .o (.s .o .o)) .o)))))))) (.s .o .o))))))) [.lf (.int .u64 hi), .lf (.int .u64 lo), .lf (.int .u64 c)] [.lf (.int .u64), .lf (.int .i64)] R) (fun w => W_wide_Div hi lo c R w) := ⟨by kernel_rfl⟩
theorem call_wide_Div (hi : Int) (lo : Int) (c : Int) (R : Rs.T [.lf (.int .u64), .lf (.int .i64)] → WP) (w : World) (h : W_wide_Div hi lo c R w) :
    CallX Try.prog N_wide_Div ([.lf (.int .u64 hi), .lf (.int .u64 lo), .lf (.int .u64 c)].map V1.enc) w fun v w' => ∃ x, v = (retTV (Rs.mk [.lf (.int .u64), .lf (.int .i64)] x)).enc ∧ R x w' :=
  callX_of_semF Try.func98 (by kernel_rfl) (by kernel_rfl) (sem_wide_Div hi lo c R) h


/-- canter/wide.Mul -/
def W_wide_Mul (a : Int) (b : Int) (R : Rs.T [.lf (.int .u64), .lf (.int .u64)] → WP) : WP :=
  call Try.prog N_math_bits_Mul64 [.lf (.int .u64 a), .lf (.int .u64 b)] [.lf (.int .u64), .lf (.int .u64)] fun (r1 : Int × Int) =>
  R (r1.1, r1.2)
theorem sem_wide_Mul (a : Int) (b : Int) (R : Rs.T [.lf (.int .u64), .lf (.int .u64)] → WP) : Same (semF Try.prog Try.f97 (.s .o (.s .o .o)) [.lf (.int .u64 a), .lf (.int .u64 b)] [.lf (.int .u64), .lf (.int .u64)] R) (fun w => W_wide_Mul a b R w) := ⟨by kernel_rfl⟩
theorem call_wide_Mul (a : Int) (b : Int) (R : Rs.T [.lf (.int .u64), .lf (.int .u64)] → WP) (w : World) (h : W_wide_Mul a b R w) :
    CallX Try.prog N_wide_Mul ([.lf (.int .u64 a), .lf (.int .u64 b)].map V1.enc) w fun v w' => ∃ x, v = (retTV (Rs.mk [.lf (.int .u64), .lf (.int .u64)] x)).enc ∧ R x w' :=
  callX_of_semF Try.func97 (by kernel_rfl) (by kernel_rfl) (sem_wide_Mul a b R) h


/-- canter/wide.MulDiv -/
def W_wide_MulDiv (a : Int) (b : Int) (c : Int) (R : Rs.T [.lf (.int .u64)] → WP) : WP :=
  call Try.prog N_wide_Mul [.lf (.int .u64 a), .lf (.int .u64 b)] [.lf (.int .u64), .lf (.int .u64)] fun (r1 : Int × Int) =>
  ite' ((r1.1 == (0:Int)) && (r1.2 == (0:Int))) (
  R (0:Int)) <|
  call Try.prog N_wide_Div [.lf (.int .u64 r1.1), .lf (.int .u64 r1.2), .lf (.int .u64 c)] [.lf (.int .u64), .lf (.int .i64)] fun (r2 : Int × Int) =>
  ite' (r2.2 != (0:Int)) (
  R (18446744073709551615:Int)) <|
  R r2.1
theorem sem_wide_MulDiv (a : Int) (b : Int) (c : Int) (R : Rs.T [.lf (.int .u64)] → WP) : Same (semF Try.prog Try.f70 (.s .o (.s .o (.s (.s .o (.s (.s .o .o) .o)) (.s .o (.s (.s .o (.s (.s .o .o) .o)) (.s .o .o)))))) [.lf (.int .u64 a), .lf (.int .u64 b), .lf (.int .u64 c)] [.lf (.int .u64)] R) (fun w => W_wide_MulDiv a b c R w) := ⟨by kernel_rfl⟩
theorem call_wide_MulDiv (a : Int) (b : Int) (c : Int) (R : Rs.T [.lf (.int .u64)] → WP) (w : World) (h : W_wide_MulDiv a b c R w) :
    CallX Try.prog N_wide_MulDiv ([.lf (.int .u64 a), .lf (.int .u64 b), .lf (.int .u64 c)].map V1.enc) w fun v w' => ∃ x, v = (retTV (Rs.mk [.lf (.int .u64)] x)).enc ∧ R x w' :=
  callX_of_semF Try.func70 (by kernel_rfl) (by kernel_rfl) (sem_wide_MulDiv a b c R) h


/-- (*canter/winmax.Max).Best -/
def W_winmax_Max_Best (m : Option Pt) (R : Rs.T [.lf (.int .u64)] → WP) : WP :=
  ite' m.isNone (
  R (0:Int)) <|
  deref m fun q1 =>
  req (0 ≤ (0:Int) ∧ (0:Int) < 3) <|
  ld [.int .u64] ⟨q1.b, q1.o + 1 + (0:Int).toNat * 2 + 1⟩ fun (x2 : Int) =>
  R x2
theorem sem_winmax_Max_Best (m : Option Pt) (R : Rs.T [.lf (.int .u64)] → WP) : Same (semF Try.prog Try.f45 (.s .o (.s (.s .o (.s (.s .o .o) .o)) (.s .o .o))) [.lf (.ptr m)] [.lf (.int .u64)] R) (fun w => W_winmax_Max_Best m R w) := ⟨by kernel_rfl⟩
theorem call_winmax_Max_Best (m : Option Pt) (R : Rs.T [.lf (.int .u64)] → WP) (w : World) (h : W_winmax_Max_Best m R w) :
    CallX Try.prog N_winmax_Max_Best ([.lf (.ptr m)].map V1.enc) w fun v w' => ∃ x, v = (retTV (Rs.mk [.lf (.int .u64)] x)).enc ∧ R x w' :=
  callX_of_semF Try.func45 (by kernel_rfl) (by kernel_rfl) (sem_winmax_Max_Best m R) h


/-- (*canter/winmax.Max).Reset -/
def W_winmax_Max_Reset (m : Option Pt) (t : Int) (v : Int) (R : Rs.T [] → WP) : WP :=
  ite' m.isNone (
  R ()) <|
  deref m fun q1 =>
  ld [.int .u64] ⟨q1.b, q1.o + 7⟩ fun (x2 : Int) =>
  deref m fun q3 =>
  st ⟨q3.b, q3.o + 7⟩ [.int .u64 (if t > x2 then t else x2)] <|
  call Try.prog N_winmax_Max_all [.lf (.ptr m), .lf (.int .i64 (0:Int)), .agg [.int .u64 t, .int .u64 v]] [] fun (r4 : Unit) =>
  R ()
theorem sem_winmax_Max_Reset (m : Option Pt) (t : Int) (v : Int) (R : Rs.T [] → WP) : Same (semF Try.prog Try.f100 (.s (.s .o (.s .o .o)) (.s .o .o)) [.lf (.ptr m), .lf (.int .u64 t), .lf (.int .u64 v)] [] R) (fun w => W_winmax_Max_Reset m t v R w) := ⟨by kernel_rfl⟩
theorem call_winmax_Max_Reset (m : Option Pt) (t : Int) (v : Int) (R : Rs.T [] → WP) (w : World) (h : W_winmax_Max_Reset m t v R w) :
    CallX Try.prog N_winmax_Max_Reset ([.lf (.ptr m), .lf (.int .u64 t), .lf (.int .u64 v)].map V1.enc) w fun v w' => ∃ x, v = (retTV (Rs.mk [] x)).enc ∧ R x w' :=
  callX_of_semF Try.func100 (by kernel_rfl) (by kernel_rfl) (sem_winmax_Max_Reset m t v R) h


/-- (*canter/winmax.Max).Update -/
def W_winmax_Max_Update (d : Option Pt) (o : Int) (a : Int) (R : Rs.T [.lf (.int .u64)] → WP) : WP :=
  ite' d.isNone (
  R (0:Int)) <|
  deref d fun q1 =>
  ld [.int .u64] ⟨q1.b, q1.o + 7⟩ fun (x2 : Int) =>
  deref d fun q3 =>
  st ⟨q3.b, q3.o + 7⟩ [.int .u64 (if o > x2 then o else x2)] <|
  deref d fun q4 =>
  ld [.int .u64] ⟨q4.b, q4.o + 7⟩ fun (x5 : Int) =>
  new [.int .u64 (0:Int), .int .u64 (0:Int)] fun n6 =>
  st ⟨n6, 0⟩ [.int .u64 x5, .int .u64 a] <|
  join [.bool] (fun J7 =>
  drw <|
  deref d fun q9 =>
  req (0 ≤ (0:Int) ∧ (0:Int) < 3) <|
  ld [.int .u64] ⟨q9.b, q9.o + 1 + (0:Int).toNat * 2 + 1⟩ fun (x10 : Int) =>
  ite' (decide (a ≥ x10)) (
  J7 true) <|
  ld [.int .u64] ⟨n6, 0⟩ fun (x11 : Int) =>
  deref d fun q12 =>
  deref d fun q13 =>
  req (0 ≤ (2:Int) ∧ (2:Int) < 3) <|
  ld [.int .u64] q13 fun (x14 : Int) =>
  ld [.int .u64, .int .u64] ⟨q12.b, q12.o + 1 + (2:Int).toNat * 2⟩ fun (x15 : Int × Int) =>
  call Try.prog N_winmax_near [.lf (.int .u64 x11), .agg (Ks.mk [.int .u64, .int .u64] x15), .lf (.int .u64 x14)] [.lf .bool] fun (r16 : Bool) =>
  J7 (!r16)) fun (y8 : Bool) =>
  ite' y8 (
  ld [.int .u64] ⟨n6, 0⟩ fun (x17 : Int) =>
  call Try.prog N_winmax_Max_Reset [.lf (.ptr d), .lf (.int .u64 x17), .lf (.int .u64 a)] [] fun (r18 : Unit) =>
  R a) <|
  join [] (fun J19 =>
  loop [.int .i64] (0:Int) fun J21 (y22 : Int) =>
  ite' (decide (y22 < (3:Int))) (
  join [.bool] (fun J23 =>
  ite' (decide (y22 > (0:Int))) (
  deref d fun q25 =>
  req (0 ≤ y22 ∧ y22 < 3) <|
  ld [.int .u64] ⟨q25.b, q25.o + 1 + y22.toNat * 2 + 1⟩ fun (x26 : Int) =>
  J23 (decide (a ≥ x26))) <|
  J23 false) fun (y24 : Bool) =>
  ite' y24 (
  ld [.int .u64, .int .u64] ⟨n6, 0⟩ fun (x27 : Int × Int) =>
  call Try.prog N_winmax_Max_all [.lf (.ptr d), .lf (.int .i64 y22), .agg (Ks.mk [.int .u64, .int .u64] x27)] [] fun (r28 : Unit) =>
  J19 ()) <|
  J21 (IntKind.i64.wrap (y22 + (1:Int)))) <|
  J19 ()) fun (y20 : Unit) =>
  join [] (fun J29 =>
  drw <|
  ld [.int .u64] ⟨n6, 0⟩ fun (x31 : Int) =>
  deref d fun q32 =>
  deref d fun q33 =>
  req (0 ≤ (0:Int) ∧ (0:Int) < 3) <|
  ld [.int .u64] q33 fun (x34 : Int) =>
  ld [.int .u64, .int .u64] ⟨q32.b, q32.o + 1 + (0:Int).toNat * 2⟩ fun (x35 : Int × Int) =>
  call Try.prog N_winmax_near [.lf (.int .u64 x31), .agg (Ks.mk [.int .u64, .int .u64] x35), .lf (.int .u64 x34)] [.lf .bool] fun (r36 : Bool) =>
  ite' (!r36) (
  ld [.int .u64, .int .u64] ⟨n6, 0⟩ fun (x37 : Int × Int) =>
  call Try.prog N_winmax_Max_push [.lf (.ptr d), .agg (Ks.mk [.int .u64, .int .u64] x37)] [] fun (r38 : Unit) =>
  drw <|
  ld [.int .u64] ⟨n6, 0⟩ fun (x39 : Int) =>
  deref d fun q40 =>
  deref d fun q41 =>
  req (0 ≤ (0:Int) ∧ (0:Int) < 3) <|
  ld [.int .u64] q41 fun (x42 : Int) =>
  ld [.int .u64, .int .u64] ⟨q40.b, q40.o + 1 + (0:Int).toNat * 2⟩ fun (x43 : Int × Int) =>
  call Try.prog N_winmax_near [.lf (.int .u64 x39), .agg (Ks.mk [.int .u64, .int .u64] x43), .lf (.int .u64 x42)] [.lf .bool] fun (r44 : Bool) =>
  ite' (!r44) (
  ld [.int .u64, .int .u64] ⟨n6, 0⟩ fun (x45 : Int × Int) =>
  call Try.prog N_winmax_Max_push [.lf (.ptr d), .agg (Ks.mk [.int .u64, .int .u64] x45)] [] fun (r46 : Unit) =>
  J29 ()) <|
  J29 ()) <|
  join [.bool] (fun J47 =>
  drw <|
  deref d fun q49 =>
  deref d fun q50 =>
  req (0 ≤ (1:Int) ∧ (1:Int) < 3) <|
  req (0 ≤ (0:Int) ∧ (0:Int) < 3) <|
  ld [.int .u64] ⟨q49.b, q49.o + 1 + (1:Int).toNat * 2⟩ fun (x51 : Int) =>
  ld [.int .u64] ⟨q50.b, q50.o + 1 + (0:Int).toNat * 2⟩ fun (x52 : Int) =>
  ite' (x51 == x52) (
  ld [.int .u64] ⟨n6, 0⟩ fun (x53 : Int) =>
  deref d fun q54 =>
  deref d fun q55 =>
  req (0 ≤ (0:Int) ∧ (0:Int) < 3) <|
  ld [.int .u64] q55 fun (x56 : Int) =>
  ld [.int .u64, .int .u64] ⟨q54.b, q54.o + 1 + (0:Int).toNat * 2⟩ fun (x57 : Int × Int) =>
  call Try.prog N_winmax_near [.lf (.int .u64 x53), .agg (Ks.mk [.int .u64, .int .u64] x57), .lf (.int .u64 (IntKind.u64.wrap (x56.tdiv (4:Int))))] [.lf .bool] fun (r58 : Bool) =>
  J47 (!r58)) <|
  J47 false) fun (y48 : Bool) =>
  ite' y48 (
  ld [.int .u64, .int .u64] ⟨n6, 0⟩ fun (x59 : Int × Int) =>
  call Try.prog N_winmax_Max_all [.lf (.ptr d), .lf (.int .i64 (1:Int)), .agg (Ks.mk [.int .u64, .int .u64] x59)] [] fun (r60 : Unit) =>
  J29 ()) <|
  join [.bool] (fun J61 =>
  drw <|
  deref d fun q63 =>
  deref d fun q64 =>
  req (0 ≤ (2:Int) ∧ (2:Int) < 3) <|
  req (0 ≤ (1:Int) ∧ (1:Int) < 3) <|
  ld [.int .u64] ⟨q63.b, q63.o + 1 + (2:Int).toNat * 2⟩ fun (x65 : Int) =>
  ld [.int .u64] ⟨q64.b, q64.o + 1 + (1:Int).toNat * 2⟩ fun (x66 : Int) =>
  ite' (x65 == x66) (
  ld [.int .u64] ⟨n6, 0⟩ fun (x67 : Int) =>
  deref d fun q68 =>
  deref d fun q69 =>
  req (0 ≤ (0:Int) ∧ (0:Int) < 3) <|
  ld [.int .u64] q69 fun (x70 : Int) =>
  ld [.int .u64, .int .u64] ⟨q68.b, q68.o + 1 + (0:Int).toNat * 2⟩ fun (x71 : Int × Int) =>
  call Try.prog N_winmax_near [.lf (.int .u64 x67), .agg (Ks.mk [.int .u64, .int .u64] x71), .lf (.int .u64 (IntKind.u64.wrap (x70.tdiv (2:Int))))] [.lf .bool] fun (r72 : Bool) =>
  J61 (!r72)) <|
  J61 false) fun (y62 : Bool) =>
  ite' y62 (
  ld [.int .u64, .int .u64] ⟨n6, 0⟩ fun (x73 : Int × Int) =>
  call Try.prog N_winmax_Max_all [.lf (.ptr d), .lf (.int .i64 (2:Int)), .agg (Ks.mk [.int .u64, .int .u64] x73)] [] fun (r74 : Unit) =>
  J29 ()) <|
  J29 ()) fun (y30 : Unit) =>
  deref d fun q75 =>
  req (0 ≤ (0:Int) ∧ (0:Int) < 3) <|
  ld [.int .u64] ⟨q75.b, q75.o + 1 + (0:Int).toNat * 2 + 1⟩ fun (x76 : Int) =>
  R x76
theorem sem_winmax_Max_Update (d : Option Pt) (o : Int) (a : Int) (R : Rs.T [.lf (.int .u64)] → WP) : Same (semF Try.prog Try.f72 (.s .o (.s (.s .o (.s (.s .o .o) .o)) (.s .o (.s .o (.s (.j [(48, .lf .bool)] (.d (.f 0 [2] (.f 1 [0] (.f 2 [27] (.f 3 [28] (.f 4 [29] (.f 5 [30] (.f 6 [31] (.f 7 [26, 32] (.f 8 [33] (.f 9 [7, 34] (.f 11 [0, 34] (.f 16 [0, 34] (.f 10 [34, 35] (.f 12 [34, 37] (.f 17 [34, 42] (.f 13 [34, 38] (.f 18 [34, 43] (.f 14 [34, 39] (.f 19 [34, 44] (.f 15 [34, 40] (.w 20 [34, 36, 41, 45] (.f 21 [34, 46] (.f 22 [34, 47] .fin)))))))))))))))))))))))) (.s (.s .o (.s .o .o)) .o)) (.s .o (.j [] (.s .o (.b (.l [(55, .lf (.int .i64))] (.s .o (.s (.s .o .o) (.s (.b (.s .o (.j [(70, .lf .bool)] .o (.s (.s .o .o) .o)))) .o)))))) (.j [] (.b (.s (.d (.f 0 [7] (.f 2 [0] (.f 7 [0] (.f 1 [77] (.f 3 [79] (.f 8 [84] (.f 4 [80] (.f 9 [85] (.f 5 [81] (.f 10 [86] (.f 6 [82] (.w 11 [78, 83, 87] (.f 12 [88] (.w 13 [89] .fin))))))))))))))) (.s (.s .o (.s (.d (.f 0 [7] (.f 2 [0] (.f 7 [0] (.f 1 [93] (.f 3 [95] (.f 8 [100] (.f 4 [96] (.f 9 [101] (.f 5 [97] (.f 10 [102] (.f 6 [98] (.w 11 [94, 99, 103] (.f 12 [104] .fin)))))))))))))) (.s .o .o))) (.j [(109, .lf .bool)] (.d (.f 0 [0] (.f 6 [0] (.f 1 [110] (.f 7 [116] (.f 2 [111] (.f 8 [117] (.f 3 [112] (.f 9 [118] (.f 4 [113] (.f 10 [119] (.f 5 [114] (.f 11 [120] (.f 12 [115, 121] (.f 13 [122] (.f 14 [7, 123] (.f 16 [0, 123] (.f 21 [0, 123] (.f 15 [123, 124] (.f 17 [123, 126] (.f 22 [123, 131] (.f 18 [123, 127] (.f 23 [123, 132] (.f 19 [123, 128] (.f 24 [123, 133] (.f 20 [123, 129] (.f 25 [123, 134] (.w 26 [123, 125, 130, 135] (.f 27 [123, 136] (.f 28 [123, 137] (.w 29 [138] .fin))))))))))))))))))))))))))))))) (.s .o (.j [(142, .lf .bool)] (.d (.f 0 [0] (.f 6 [0] (.f 1 [143] (.f 7 [149] (.f 2 [144] (.f 8 [150] (.f 3 [145] (.f 9 [151] (.f 4 [146] (.f 10 [152] (.f 5 [147] (.f 11 [153] (.f 12 [148, 154] (.f 13 [155] (.f 14 [7, 156] (.f 16 [0, 156] (.f 21 [0, 156] (.f 15 [156, 157] (.f 17 [156, 159] (.f 22 [156, 164] (.f 18 [156, 160] (.f 23 [156, 165] (.f 19 [156, 161] (.f 24 [156, 166] (.f 20 [156, 162] (.f 25 [156, 167] (.w 26 [156, 158, 163, 168] (.f 27 [156, 169] (.f 28 [156, 170] (.w 29 [171] .fin))))))))))))))))))))))))))))))) (.s .o .o))))))) (.s .o .o))))))))) [.lf (.ptr d), .lf (.int .u64 o), .lf (.int .u64 a)] [.lf (.int .u64)] R) (fun w => W_winmax_Max_Update d o a R w) := ⟨by kernel_rfl⟩
theorem call_winmax_Max_Update (d : Option Pt) (o : Int) (a : Int) (R : Rs.T [.lf (.int .u64)] → WP) (w : World) (h : W_winmax_Max_Update d o a R w) :
    CallX Try.prog N_winmax_Max_Update ([.lf (.ptr d), .lf (.int .u64 o), .lf (.int .u64 a)].map V1.enc) w fun v w' => ∃ x, v = (retTV (Rs.mk [.lf (.int .u64)] x)).enc ∧ R x w' :=
  callX_of_semF Try.func72 (by kernel_rfl) (by kernel_rfl) (sem_winmax_Max_Update d o a R) h


/-- (*canter/winmax.Max).all -/
def W_winmax_Max_all (m : Option Pt) (from' : Int) (s : Int × Int) (R : Rs.T [] → WP) : WP :=
  new (Ks.mk [.int .u64, .int .u64] s) fun n1 =>
  deref m fun q2 =>
  slc ⟨some ⟨q2.b, q2.o + 1⟩, 3, 3⟩ (some from') none none 2 fun s3 =>
  loop [.int .i64] (0:Int) fun J4 (y5 : Int) =>
  ite' (decide (y5 < ((s3.len : Nat) : Int))) (
  drw <|
  ld [.int .u64, .int .u64] ⟨n1, 0⟩ fun (x6 : Int × Int) =>
  deref m fun q7 =>
  req (0 ≤ (IntKind.i64.wrap (from' + y5)) ∧ (IntKind.i64.wrap (from' + y5)) < 3) <|
  st ⟨q7.b, q7.o + 1 + (IntKind.i64.wrap (from' + y5)).toNat * 2⟩ (Ks.mk [.int .u64, .int .u64] x6) <|
  J4 (IntKind.i64.wrap (y5 + (1:Int)))) <|
  R ()
theorem sem_winmax_Max_all (m : Option Pt) (from' : Int) (s : Int × Int) (R : Rs.T [] → WP) : Same (semF Try.prog Try.f101 (.s .o (.s .o (.b (.l [(13, .lf (.int .i64))] (.s .o (.s (.s .o .o) (.s (.b (.s .o (.d (.f 0 [0] (.f 1 [1] (.f 2 [6] (.f 4 [5] (.f 3 [17, 18] (.f 5 [16] (.f 6 [21] (.f 7 [19, 22] (.w 8 [20, 23] .fin)))))))))))) .o))))))) [.lf (.ptr m), .lf (.int .i64 from'), .agg (Ks.mk [.int .u64, .int .u64] s)] [] R) (fun w => W_winmax_Max_all m from' s R w) := ⟨by kernel_rfl⟩
theorem call_winmax_Max_all (m : Option Pt) (from' : Int) (s : Int × Int) (R : Rs.T [] → WP) (w : World) (h : W_winmax_Max_all m from' s R w) :
    CallX Try.prog N_winmax_Max_all ([.lf (.ptr m), .lf (.int .i64 from'), .agg (Ks.mk [.int .u64, .int .u64] s)].map V1.enc) w fun v w' => ∃ x, v = (retTV (Rs.mk [] x)).enc ∧ R x w' :=
  callX_of_semF Try.func101 (by kernel_rfl) (by kernel_rfl) (sem_winmax_Max_all m from' s R) h


/-- (*canter/winmax.Max).push -/
def W_winmax_Max_push (m : Option Pt) (s : Int × Int) (R : Rs.T [] → WP) : WP :=
  new (Ks.mk [.int .u64, .int .u64] s) fun n1 =>
  drw <|
  ld [.int .u64, .int .u64] ⟨n1, 0⟩ fun (x2 : Int × Int) =>
  deref m fun q3 =>
  deref m fun q4 =>
  deref m fun q5 =>
  deref m fun q6 =>
  deref m fun q7 =>
  req (0 ≤ (1:Int) ∧ (1:Int) < 3) <|
  req (0 ≤ (2:Int) ∧ (2:Int) < 3) <|
  ld [.int .u64, .int .u64] ⟨q3.b, q3.o + 1 + (1:Int).toNat * 2⟩ fun (x8 : Int × Int) =>
  ld [.int .u64, .int .u64] ⟨q4.b, q4.o + 1 + (2:Int).toNat * 2⟩ fun (x9 : Int × Int) =>
  req (0 ≤ (0:Int) ∧ (0:Int) < 3) <|
  st ⟨q5.b, q5.o + 1 + (0:Int).toNat * 2⟩ (Ks.mk [.int .u64, .int .u64] x8) <|
  chk ⟨n1, 0⟩ (Ks.mk [.int .u64, .int .u64] x2) <|
  req (0 ≤ (1:Int) ∧ (1:Int) < 3) <|
  st ⟨q6.b, q6.o + 1 + (1:Int).toNat * 2⟩ (Ks.mk [.int .u64, .int .u64] x9) <|
  chk ⟨n1, 0⟩ (Ks.mk [.int .u64, .int .u64] x2) <|
  req (0 ≤ (2:Int) ∧ (2:Int) < 3) <|
  st ⟨q7.b, q7.o + 1 + (2:Int).toNat * 2⟩ (Ks.mk [.int .u64, .int .u64] x2) <|
  R ()
theorem sem_winmax_Max_push (m : Option Pt) (s : Int × Int) (R : Rs.T [] → WP) : Same (semF Try.prog Try.f102 (.s .o (.d (.f 0 [0] (.f 1 [0] (.f 2 [0] (.f 3 [0] (.f 8 [0] (.f 13 [3] (.f 4 [7] (.f 9 [12] (.f 14 [4] (.f 18 [5] (.f 22 [6] (.f 5 [8] (.f 10 [13] (.f 15 [18] (.f 19 [21] (.f 23 [24] (.f 6 [9] (.f 11 [14] (.f 7 [10] (.f 12 [15] (.f 16 [19] (.w 17 [11, 20] (.f 20 [22] (.w 21 [16, 23] (.f 24 [25] (.w 25 [17, 26] .fin)))))))))))))))))))))))))))) [.lf (.ptr m), .agg (Ks.mk [.int .u64, .int .u64] s)] [] R) (fun w => W_winmax_Max_push m s R w) := ⟨by kernel_rfl⟩
theorem call_winmax_Max_push (m : Option Pt) (s : Int × Int) (R : Rs.T [] → WP) (w : World) (h : W_winmax_Max_push m s R w) :
    CallX Try.prog N_winmax_Max_push ([.lf (.ptr m), .agg (Ks.mk [.int .u64, .int .u64] s)].map V1.enc) w fun v w' => ∃ x, v = (retTV (Rs.mk [] x)).enc ∧ R x w' :=
  callX_of_semF Try.func102 (by kernel_rfl) (by kernel_rfl) (sem_winmax_Max_push m s R) h


/-- canter/winmax.New -/
def W_winmax_New (window : Int) (R : Rs.T [.lf .ptr] → WP) : WP :=
  new [.int .u64 window, .int .u64 (0:Int), .int .u64 (0:Int), .int .u64 (0:Int), .int .u64 (0:Int), .int .u64 (0:Int), .int .u64 (0:Int), .int .u64 (0:Int)] fun n1 =>
  R (some ⟨n1, 0⟩)
theorem sem_winmax_New (window : Int) (R : Rs.T [.lf .ptr] → WP) : Same (semF Try.prog Try.f23 (.s .o (.s .o (.s .o .o))) [.lf (.int .u64 window)] [.lf .ptr] R) (fun w => W_winmax_New window R w) := ⟨by kernel_rfl⟩
theorem call_winmax_New (window : Int) (R : Rs.T [.lf .ptr] → WP) (w : World) (h : W_winmax_New window R w) :
    CallX Try.prog N_winmax_New ([.lf (.int .u64 window)].map V1.enc) w fun v w' => ∃ x, v = (retTV (Rs.mk [.lf .ptr] x)).enc ∧ R x w' :=
  callX_of_semF Try.func23 (by kernel_rfl) (by kernel_rfl) (sem_winmax_New window R) h


/-- canter/winmax.near -/
def W_winmax_near (t : Int) (s : Int × Int) (window : Int) (R : Rs.T [.lf .bool] → WP) : WP :=
  new (Ks.mk [.int .u64, .int .u64] s) fun n1 =>
  ld [.int .u64] ⟨n1, 0⟩ fun (x2 : Int) =>
  R (decide ((IntKind.u64.wrap (t - (if x2 < t then x2 else t))) ≤ window))
theorem sem_winmax_near (t : Int) (s : Int × Int) (window : Int) (R : Rs.T [.lf .bool] → WP) : Same (semF Try.prog Try.f99 (.s .o (.s .o .o)) [.lf (.int .u64 t), .agg (Ks.mk [.int .u64, .int .u64] s), .lf (.int .u64 window)] [.lf .bool] R) (fun w => W_winmax_near t s window R w) := ⟨by kernel_rfl⟩
theorem call_winmax_near (t : Int) (s : Int × Int) (window : Int) (R : Rs.T [.lf .bool] → WP) (w : World) (h : W_winmax_near t s window R w) :
    CallX Try.prog N_winmax_near ([.lf (.int .u64 t), .agg (Ks.mk [.int .u64, .int .u64] s), .lf (.int .u64 window)].map V1.enc) w fun v w' => ∃ x, v = (retTV (Rs.mk [.lf .bool] x)).enc ∧ R x w' :=
  callX_of_semF Try.func99 (by kernel_rfl) (by kernel_rfl) (sem_winmax_near t s window R) h



end Go.X
