/- What each function of the program computes, as a weakest precondition, printed by program; the kernel sees that the code says so. -/
import Derived.Test.YtgdhpkfielibbaaXm
import Derived.Test.YtgdhpkfielibbaaProg
set_option linter.unusedVariables false
namespace Go.X
open Go.Proofs
abbrev K_u6b3 : Ks := [.int .u64, .int .u64, .int .u64, .int .u64, .int .u64, .int .u64, .bool, .bool, .bool]
abbrev T_u6b3 : Type := Int × Int × Int × Int × Int × Int × Bool × Bool × Bool
abbrev K_u4b : Ks := [.int .u64, .int .u64, .int .u64, .int .u64, .bool]
abbrev T_u4b : Type := Int × Int × Int × Int × Bool
abbrev K_s2i : Ks := [.sl, .sl, .int .i64]
abbrev T_s2i : Type := Sl × Sl × Int
abbrev K_ui2 : Ks := [.int .u64, .int .i64, .int .i64]
abbrev T_ui2 : Type := Int × Int × Int

/-- canter/canterlaw24.BoardRefuses -/
def W_canterlaw24_BoardRefuses (d : Sl) (o : Int) (a : Int) (R : Rs.T [.lf .bool] → WP) : WP :=
  call Try.prog 13 [] [.lf .ptr] fun (r1 : Option Pt) =>
  call Try.prog 14 [] [.lf .bool] fun (r2 : Bool) =>
  ite' ((!r2) || r1.isNone) (
  R false) <|
  loop [.int .i64] (0:Int) fun J3 (y4 : Int) =>
  ite' ((decide (y4 < ((d.len : Nat) : Int))) && (decide (y4 < (20:Int)))) (
  drw <|
  idx d y4 1 fun q5 =>
  ld [.int .i64] q5 fun (x6 : Int) =>
  call Try.prog 16 [.lf (.ptr r1)] [.lf (.int .u64)] fun (r7 : Int) =>
  chk q5 (Ks.mk [.int .i64] x6) <|
  call Try.prog 16 [.lf (.ptr r1)] [.lf (.int .u64)] fun (r8 : Int) =>
  chk q5 (Ks.mk [.int .i64] x6) <|
  call Try.prog 15 [.lf (.ptr r1), .lf (.int .u64 r7), .lf (.int .u64 (IntKind.u64.wrap ((IntKind.u64.wrap (r8 + (1:Int))) + ((IntKind.u64.wrap x6).tmod (5000:Int))))), .agg [.int .u64 (IntKind.u64.wrap y4), .int .u64 (0:Int), .int .u64 (0:Int), .int .u64 (0:Int), .bool false]] [.lf (.int .i64)] fun (r9 : Int) =>
  J3 (IntKind.i64.wrap (y4 + (1:Int)))) <|
  call Try.prog 16 [.lf (.ptr r1)] [.lf (.int .u64)] fun (r10 : Int) =>
  call Try.prog 17 [.lf (.ptr r1)] [.lf (.int .u64)] fun (r11 : Int) =>
  call Try.prog 19 [.lf (.ptr r1)] [.lf .fn] fun (r12 : Fv) =>
  call Try.prog 18 [.lf (.fn r12), .lf (.int .i64 (99:Int))] [.lf .sl] fun (r13 : Sl) =>
  join [.int .i64, .int .i64] (fun J14 =>
  ite' (((IntKind.u64.wrap a).tmod (5:Int)) == (0:Int)) (
  call Try.prog 20 [.lf (.ptr r1), .lf (.int .u64 (IntKind.u64.wrap ((IntKind.u64.wrap (r10 + (1:Int))) + (o.tmod (1099511627776:Int))))), .lf (.sl ⟨none, 0, 0⟩)] [.lf .sl, .lf (.int .u64), .lf (.int .i64)] fun (r16 : Sl × Int × Int) =>
  J14 (r16.2.2, (11:Int))) <|
  ite' (((IntKind.u64.wrap a).tmod (5:Int)) == (1:Int)) (
  new [.int .u64 r10, .int .u64 (IntKind.u64.wrap ((IntKind.u64.wrap (r10 + (1:Int))) + (o.tmod (1099511627776:Int))))] fun n17 =>
  call Try.prog 20 [.lf (.ptr r1), .lf (.int .u64 (0:Int)), .lf (.sl ⟨some ⟨n17, 0⟩, 1, 1⟩)] [.lf .sl, .lf (.int .u64), .lf (.int .i64)] fun (r18 : Sl × Int × Int) =>
  J14 (r18.2.2, (11:Int))) <|
  ite' (((IntKind.u64.wrap a).tmod (5:Int)) == (2:Int)) (
  new [.int .u64 o, .int .u64 (if r10 < o then r10 else o)] fun n19 =>
  call Try.prog 20 [.lf (.ptr r1), .lf (.int .u64 r10), .lf (.sl ⟨some ⟨n19, 0⟩, 1, 1⟩)] [.lf .sl, .lf (.int .u64), .lf (.int .i64)] fun (r20 : Sl × Int × Int) =>
  J14 (r20.2.2, (11:Int))) <|
  ite' (((IntKind.u64.wrap a).tmod (5:Int)) == (3:Int)) (
  call Try.prog 15 [.lf (.ptr r1), .lf (.int .u64 (IntKind.u64.wrap ((IntKind.u64.wrap (r10 + (1:Int))) + (o.tmod (1099511627776:Int))))), .lf (.int .u64 (IntKind.u64.wrap ((IntKind.u64.wrap ((IntKind.u64.wrap (r10 + (1:Int))) + (o.tmod (1099511627776:Int)))) + (1:Int)))), .agg [.int .u64 (0:Int), .int .u64 (0:Int), .int .u64 (0:Int), .int .u64 (0:Int), .bool false]] [.lf (.int .i64)] fun (r21 : Int) =>
  J14 (r21, (1:Int))) <|
  call Try.prog 15 [.lf (.ptr r1), .lf (.int .u64 r10), .lf (.int .u64 r10), .agg [.int .u64 (0:Int), .int .u64 (0:Int), .int .u64 (0:Int), .int .u64 (0:Int), .bool false]] [.lf (.int .i64)] fun (r22 : Int) =>
  J14 (r22, (1:Int))) fun (y15 : Int × Int) =>
  ite' (y15.1 == y15.2) (
  call Try.prog 16 [.lf (.ptr r1)] [.lf (.int .u64)] fun (r23 : Int) =>
  ite' (r23 == r10) (
  call Try.prog 17 [.lf (.ptr r1)] [.lf (.int .u64)] fun (r24 : Int) =>
  ite' (r24 == r11) (
  call Try.prog 19 [.lf (.ptr r1)] [.lf .fn] fun (r25 : Fv) =>
  call Try.prog 18 [.lf (.fn r25), .lf (.int .i64 (99:Int))] [.lf .sl] fun (r26 : Sl) =>
  call Try.prog 21 [.lf (.sl r26), .lf (.sl r13)] [.lf .bool] fun (r27 : Bool) =>
  R r27) <|
  R false) <|
  R false) <|
  R false
theorem sem_canterlaw24_BoardRefuses (d : Sl) (o : Int) (a : Int) (R : Rs.T [.lf .bool] → WP) : Same (semF Try.prog Try.f3 (.s .o (.s .o (.s (.s .o (.s (.s .o .o) .o)) (.s (.s .o (.b (.l [(8, .lf (.int .i64))] (.s (.s .o (.s .o .o)) (.s (.b (.d (.f 0 [7] (.f 1 [7] (.f 3 [7] (.f 6 [0] (.f 7 [8] (.f 13 [8] (.f 8 [38, 39] (.f 14 [45] (.f 9 [40] (.f 15 [46] (.f 10 [41] (.f 11 [42] (.w 2 [33] (.w 4 [35] (.f 5 [36] (.f 12 [37, 43] (.w 16 [32, 34, 44, 47] .fin))))))))))))))))))) .o))))) (.s .o (.s .o (.s .o (.s .o (.j [(13, .lf (.int .i64)), (14, .lf (.int .i64))] (.s .o (.b (.s .o (.s .o (.s .o (.s .o (.s .o (.s .o (.s .o (.s .o .o)))))))))) (.s .o .o)))))))))) [.lf (.sl d), .lf (.int .u64 o), .lf (.int .i64 a)] [.lf .bool] R) (fun w => W_canterlaw24_BoardRefuses d o a R w) := ⟨by kernel_rfl⟩
theorem call_canterlaw24_BoardRefuses (d : Sl) (o : Int) (a : Int) (R : Rs.T [.lf .bool] → WP) (w : World) (h : W_canterlaw24_BoardRefuses d o a R w) :
    CallX Try.prog 3 ([.lf (.sl d), .lf (.int .u64 o), .lf (.int .i64 a)].map V1.enc) w fun v w' => ∃ x, v = (retTV (Rs.mk [.lf .bool] x)).enc ∧ R x w' :=
  callX_of_semF Try.func3 (by kernel_rfl) (by kernel_rfl) (sem_canterlaw24_BoardRefuses d o a R) h

/-- canter/canterlaw24.BoardCuts -/
def W_canterlaw24_BoardCuts (d : Int) (o : Int) (R : Rs.T [.lf .bool] → WP) : WP :=
  req ((IntKind.u64.wrap ((IntKind.u64.wrap ((3:Int) + (d.tmod (5000:Int)))) - (1:Int))) ≠ 0) <|
  call Try.prog 13 [] [.lf .ptr] fun (r1 : Option Pt) =>
  call Try.prog 14 [] [.lf .bool] fun (r2 : Bool) =>
  ite' ((!r2) || r1.isNone) (
  R false) <|
  loop [.int .u64] (0:Int) fun J3 (y4 : Int) =>
  ite' (decide (y4 < (3:Int))) (
  call Try.prog 15 [.lf (.ptr r1), .lf (.int .u64 (IntKind.u64.wrap (y4 * (IntKind.u64.wrap ((3:Int) + (d.tmod (5000:Int))))))), .lf (.int .u64 (IntKind.u64.wrap ((IntKind.u64.wrap (y4 + (1:Int))) * (IntKind.u64.wrap ((3:Int) + (d.tmod (5000:Int))))))), .agg [.int .u64 y4, .int .u64 (0:Int), .int .u64 (0:Int), .int .u64 (0:Int), .bool false]] [.lf (.int .i64)] fun (r5 : Int) =>
  J3 (IntKind.u64.wrap (y4 + (1:Int)))) <|
  call Try.prog 19 [.lf (.ptr r1)] [.lf .fn] fun (r6 : Fv) =>
  call Try.prog 18 [.lf (.fn r6), .lf (.int .i64 (9:Int))] [.lf .sl] fun (r7 : Sl) =>
  new [.int .u64 (IntKind.u64.wrap ((IntKind.u64.wrap ((3:Int) + (d.tmod (5000:Int)))) + (1:Int))), .int .u64 (IntKind.u64.wrap ((IntKind.u64.wrap ((2:Int) * (IntKind.u64.wrap ((3:Int) + (d.tmod (5000:Int)))))) + (IntKind.u64.wrap ((1:Int) + (o.tmod (IntKind.u64.wrap ((IntKind.u64.wrap ((3:Int) + (d.tmod (5000:Int)))) - (1:Int)))))))), .int .u64 (IntKind.u64.wrap ((IntKind.u64.wrap ((2:Int) * (IntKind.u64.wrap ((3:Int) + (d.tmod (5000:Int)))))) + (1:Int))), .int .u64 (IntKind.u64.wrap ((3:Int) * (IntKind.u64.wrap ((3:Int) + (d.tmod (5000:Int))))))] fun n8 =>
  call Try.prog 20 [.lf (.ptr r1), .lf (.int .u64 (IntKind.u64.wrap ((1:Int) + (o.tmod (IntKind.u64.wrap ((IntKind.u64.wrap ((3:Int) + (d.tmod (5000:Int)))) - (1:Int))))))), .lf (.sl ⟨some ⟨n8, 0⟩, 2, 2⟩)] [.lf .sl, .lf (.int .u64), .lf (.int .i64)] fun (r9 : Sl × Int × Int) =>
  join [.bool] (fun J10 =>
  ite' (((r9.2.2 != (0:Int)) || (((r9.1.len : Nat) : Int) != (0:Int))) || (r9.2.1 != (0:Int))) (
  J10 true) <|
  call Try.prog 19 [.lf (.ptr r1)] [.lf .fn] fun (r12 : Fv) =>
  call Try.prog 18 [.lf (.fn r12), .lf (.int .i64 (9:Int))] [.lf .sl] fun (r13 : Sl) =>
  call Try.prog 21 [.lf (.sl r13), .lf (.sl r7)] [.lf .bool] fun (r14 : Bool) =>
  ite' (!r14) (
  J10 true) <|
  call Try.prog 17 [.lf (.ptr r1)] [.lf (.int .u64)] fun (r15 : Int) =>
  J10 (r15 != (IntKind.u64.wrap ((3:Int) * (IntKind.u64.wrap ((3:Int) + (d.tmod (5000:Int)))))))) fun (y11 : Bool) =>
  ite' y11 (
  R false) <|
  new [.int .u64 (IntKind.u64.wrap ((3:Int) + (d.tmod (5000:Int)))), .int .u64 (IntKind.u64.wrap ((IntKind.u64.wrap ((2:Int) * (IntKind.u64.wrap ((3:Int) + (d.tmod (5000:Int)))))) + (IntKind.u64.wrap ((1:Int) + (o.tmod (IntKind.u64.wrap ((IntKind.u64.wrap ((3:Int) + (d.tmod (5000:Int)))) - (1:Int))))))))] fun n16 =>
  call Try.prog 20 [.lf (.ptr r1), .lf (.int .u64 (IntKind.u64.wrap ((1:Int) + (o.tmod (IntKind.u64.wrap ((IntKind.u64.wrap ((3:Int) + (d.tmod (5000:Int)))) - (1:Int))))))), .lf (.sl ⟨some ⟨n16, 0⟩, 1, 1⟩)] [.lf .sl, .lf (.int .u64), .lf (.int .i64)] fun (r17 : Sl × Int × Int) =>
  call Try.prog 20 [.lf (.ptr r1), .lf (.int .u64 (IntKind.u64.wrap ((IntKind.u64.wrap ((2:Int) * (IntKind.u64.wrap ((3:Int) + (d.tmod (5000:Int)))))) + (IntKind.u64.wrap ((1:Int) + (o.tmod (IntKind.u64.wrap ((IntKind.u64.wrap ((3:Int) + (d.tmod (5000:Int)))) - (1:Int))))))))), .lf (.sl ⟨none, 0, 0⟩)] [.lf .sl, .lf (.int .u64), .lf (.int .i64)] fun (r18 : Sl × Int × Int) =>
  drw <|
  ite' (r17.2.2 == (0:Int)) (
  ite' (((r17.1.len : Nat) : Int) == (1:Int)) (
  idx r17.1 (0:Int) 9 fun q19 =>
  idx r7 (1:Int) 9 fun q20 =>
  ld K_u6b3 q19 fun (x21 : T_u6b3) =>
  ld K_u6b3 q20 fun (x22 : T_u6b3) =>
  ite' ((x21.1 == x22.1) && ((x21.2.1 == x22.2.1) && (((x21.2.2.1 == x22.2.2.1) && ((x21.2.2.2.1 == x22.2.2.2.1) && ((x21.2.2.2.2.1 == x22.2.2.2.2.1) && ((x21.2.2.2.2.2.1 == x22.2.2.2.2.2.1) && (x21.2.2.2.2.2.2.1 == x22.2.2.2.2.2.2.1))))) && ((x21.2.2.2.2.2.2.2.1 == x22.2.2.2.2.2.2.2.1) && (x21.2.2.2.2.2.2.2.2 == x22.2.2.2.2.2.2.2.2))))) (
  ite' (r18.2.2 == (0:Int)) (
  ite' (((r18.1.len : Nat) : Int) == (1:Int)) (
  idx r18.1 (0:Int) 9 fun q23 =>
  idx r7 (0:Int) 9 fun q24 =>
  ld K_u6b3 q23 fun (x25 : T_u6b3) =>
  ld K_u6b3 q24 fun (x26 : T_u6b3) =>
  ite' ((x25.1 == x26.1) && ((x25.2.1 == x26.2.1) && (((x25.2.2.1 == x26.2.2.1) && ((x25.2.2.2.1 == x26.2.2.2.1) && ((x25.2.2.2.2.1 == x26.2.2.2.2.1) && ((x25.2.2.2.2.2.1 == x26.2.2.2.2.2.1) && (x25.2.2.2.2.2.2.1 == x26.2.2.2.2.2.2.1))))) && ((x25.2.2.2.2.2.2.2.1 == x26.2.2.2.2.2.2.2.1) && (x25.2.2.2.2.2.2.2.2 == x26.2.2.2.2.2.2.2.2))))) (
  call Try.prog 17 [.lf (.ptr r1)] [.lf (.int .u64)] fun (r27 : Int) =>
  R (r27 == (IntKind.u64.wrap ((3:Int) + (d.tmod (5000:Int)))))) <|
  R false) <|
  R false) <|
  R false) <|
  R false) <|
  R false) <|
  R false
theorem sem_canterlaw24_BoardCuts (d : Int) (o : Int) (R : Rs.T [.lf .bool] → WP) : Same (semF Try.prog Try.f4 (.s .o (.s .o (.s .o (.s .o (.s (.s .o (.s (.s .o .o) .o)) (.s (.s .o (.b (.l [(6, .lf (.int .u64))] (.s (.s .o (.s .o .o)) (.s (.b .o) .o))))) (.s .o (.s .o (.s (.j [(93, .lf .bool)] .o (.s (.s .o .o) .o)) (.s .o (.s .o (.s (.d (.f 0 [10] (.f 1 [118] (.f 2 [119] (.f 3 [8, 120] (.f 4 [120, 121] (.f 5 [120, 122] (.f 6 [120, 123] (.f 7 [124] (.f 8 [8, 125] (.f 11 [7, 125] (.f 9 [125, 126] (.f 12 [125, 129] (.f 10 [125, 127] (.f 13 [125, 130] (.f 14 [125, 128, 131] (.f 15 [125, 132] (.f 16 [133] (.f 17 [13, 134] (.f 18 [134, 135] (.f 19 [134, 136] (.f 20 [137] (.f 21 [11, 138] (.f 22 [138, 139] (.f 23 [138, 140] (.f 24 [138, 141] (.f 25 [142] (.f 26 [11, 143] (.f 29 [7, 143] (.f 27 [143, 144] (.f 30 [143, 147] (.f 28 [143, 145] (.f 31 [143, 148] (.f 32 [143, 146, 149] (.f 33 [143, 150] (.f 34 [151] (.f 35 [5, 152] (.f 37 [0, 152] (.w 36 [152, 153] (.f 38 [152, 154, 155] (.f 39 [152, 156] (.w 40 [157] .fin)))))))))))))))))))))))))))))))))))))))))) .o)))))))))))) [.lf (.int .u64 d), .lf (.int .u64 o)] [.lf .bool] R) (fun w => W_canterlaw24_BoardCuts d o R w) := ⟨by kernel_rfl⟩
theorem call_canterlaw24_BoardCuts (d : Int) (o : Int) (R : Rs.T [.lf .bool] → WP) (w : World) (h : W_canterlaw24_BoardCuts d o R w) :
    CallX Try.prog 4 ([.lf (.int .u64 d), .lf (.int .u64 o)].map V1.enc) w fun v w' => ∃ x, v = (retTV (Rs.mk [.lf .bool] x)).enc ∧ R x w' :=
  callX_of_semF Try.func4 (by kernel_rfl) (by kernel_rfl) (sem_canterlaw24_BoardCuts d o R) h

/-- canter/canterlaw24.BoardLosses -/
def W_canterlaw24_BoardLosses (d : Int) (o : Int) (R : Rs.T [.lf .bool] → WP) : WP :=
  call Try.prog 13 [] [.lf .ptr] fun (r1 : Option Pt) =>
  call Try.prog 14 [] [.lf .bool] fun (r2 : Bool) =>
  ite' ((!r2) || r1.isNone) (
  R false) <|
  loop [.int .i64] (0:Int) fun J3 (y4 : Int) =>
  ite' (decide (y4 < (IntKind.i64.wrap ((4:Int) + (IntKind.i64.wrap ((IntKind.u64.wrap d).tmod (20:Int))))))) (
  call Try.prog 15 [.lf (.ptr r1), .lf (.int .u64 (IntKind.u64.wrap ((IntKind.u64.wrap y4) * (IntKind.u64.wrap ((1:Int) + (o.tmod (5000:Int))))))), .lf (.int .u64 (IntKind.u64.wrap ((IntKind.u64.wrap (IntKind.i64.wrap (y4 + (1:Int)))) * (IntKind.u64.wrap ((1:Int) + (o.tmod (5000:Int))))))), .agg [.int .u64 (IntKind.u64.wrap y4), .int .u64 (0:Int), .int .u64 (0:Int), .int .u64 (0:Int), .bool false]] [.lf (.int .i64)] fun (r5 : Int) =>
  J3 (IntKind.i64.wrap (y4 + (1:Int)))) <|
  new [.int .u64 (IntKind.u64.wrap ((IntKind.u64.wrap ((IntKind.u64.wrap (IntKind.i64.wrap ((4:Int) + (IntKind.i64.wrap ((IntKind.u64.wrap d).tmod (20:Int)))))) * (IntKind.u64.wrap ((1:Int) + (o.tmod (5000:Int)))))) - (IntKind.u64.wrap ((2:Int) * (IntKind.u64.wrap ((1:Int) + (o.tmod (5000:Int)))))))), .int .u64 (IntKind.u64.wrap ((IntKind.u64.wrap (IntKind.i64.wrap ((4:Int) + (IntKind.i64.wrap ((IntKind.u64.wrap d).tmod (20:Int)))))) * (IntKind.u64.wrap ((1:Int) + (o.tmod (5000:Int))))))] fun n6 =>
  call Try.prog 20 [.lf (.ptr r1), .lf (.int .u64 (0:Int)), .lf (.sl ⟨some ⟨n6, 0⟩, 1, 1⟩)] [.lf .sl, .lf (.int .u64), .lf (.int .i64)] fun (r7 : Sl × Int × Int) =>
  new [.int .u64 (IntKind.u64.wrap ((IntKind.u64.wrap ((IntKind.u64.wrap (IntKind.i64.wrap ((4:Int) + (IntKind.i64.wrap ((IntKind.u64.wrap d).tmod (20:Int)))))) * (IntKind.u64.wrap ((1:Int) + (o.tmod (5000:Int)))))) - (IntKind.u64.wrap ((3:Int) * (IntKind.u64.wrap ((1:Int) + (o.tmod (5000:Int)))))))), .int .u64 (IntKind.u64.wrap ((IntKind.u64.wrap (IntKind.i64.wrap ((4:Int) + (IntKind.i64.wrap ((IntKind.u64.wrap d).tmod (20:Int)))))) * (IntKind.u64.wrap ((1:Int) + (o.tmod (5000:Int))))))] fun n8 =>
  call Try.prog 20 [.lf (.ptr r1), .lf (.int .u64 (0:Int)), .lf (.sl ⟨some ⟨n8, 0⟩, 1, 1⟩)] [.lf .sl, .lf (.int .u64), .lf (.int .i64)] fun (r9 : Sl × Int × Int) =>
  join [] (fun J10 =>
  ite' ((((r7.2.2 != (0:Int)) || (r9.2.2 != (0:Int))) || (r7.2.1 != (0:Int))) || (r9.2.1 != (IntKind.u64.wrap ((IntKind.u64.wrap (IntKind.i64.wrap ((IntKind.i64.wrap ((4:Int) + (IntKind.i64.wrap ((IntKind.u64.wrap d).tmod (20:Int))))) - (3:Int)))) * (IntKind.u64.wrap ((1:Int) + (o.tmod (5000:Int)))))))) (
  R false) <|
  call Try.prog 17 [.lf (.ptr r1)] [.lf (.int .u64)] fun (r12 : Int) =>
  ite' (r12 != (0:Int)) (
  R false) <|
  J10 ()) fun (y11 : Unit) =>
  loop [.int .i64] (0:Int) fun J13 (y14 : Int) =>
  ite' (decide (y14 < (IntKind.i64.wrap ((IntKind.i64.wrap ((4:Int) + (IntKind.i64.wrap ((IntKind.u64.wrap d).tmod (20:Int))))) - (3:Int))))) (
  call Try.prog 45 [.lf (.ptr r1), .agg [.int .u64 (99:Int), .int .u64 (0:Int), .int .u64 (0:Int), .int .u64 (0:Int), .bool false]] [.agg [.int .u64, .int .u64], .lf .bool] fun (r15 : (Int × Int) × Bool) =>
  new [.int .u64 (0:Int), .int .u64 (0:Int)] fun n16 =>
  st ⟨n16, 0⟩ (Ks.mk [.int .u64, .int .u64] r15.1) <|
  join [.bool] (fun J17 =>
  ite' (!r15.2) (
  J17 true) <|
  ld [.int .u64, .int .u64] ⟨n16, 0⟩ fun (x19 : Int × Int) =>
  ite' (!((x19.1 == (IntKind.u64.wrap ((IntKind.u64.wrap y14) * (IntKind.u64.wrap ((1:Int) + (o.tmod (5000:Int))))))) && (x19.2 == (IntKind.u64.wrap ((IntKind.u64.wrap (IntKind.i64.wrap (y14 + (1:Int)))) * (IntKind.u64.wrap ((1:Int) + (o.tmod (5000:Int))))))))) (
  J17 true) <|
  call Try.prog 17 [.lf (.ptr r1)] [.lf (.int .u64)] fun (r20 : Int) =>
  J17 (r20 != (IntKind.u64.wrap ((IntKind.u64.wrap (IntKind.i64.wrap (y14 + (1:Int)))) * (IntKind.u64.wrap ((1:Int) + (o.tmod (5000:Int)))))))) fun (y18 : Bool) =>
  ite' y18 (
  R false) <|
  J13 (IntKind.i64.wrap (y14 + (1:Int)))) <|
  call Try.prog 39 [.lf (.ptr r1)] [.agg [.int .u64, .int .u64], .lf .bool] fun (r21 : (Int × Int) × Bool) =>
  new [.int .u64 (0:Int), .int .u64 (0:Int)] fun n22 =>
  st ⟨n22, 0⟩ (Ks.mk [.int .u64, .int .u64] r21.1) <|
  call Try.prog 44 [.lf (.ptr r1)] [.lf (.int .u64)] fun (r23 : Int) =>
  call Try.prog 20 [.lf (.ptr none), .lf (.int .u64 (0:Int)), .lf (.sl ⟨none, 0, 0⟩)] [.lf .sl, .lf (.int .u64), .lf (.int .i64)] fun (r24 : Sl × Int × Int) =>
  call Try.prog 45 [.lf (.ptr none), .agg [.int .u64 (0:Int), .int .u64 (0:Int), .int .u64 (0:Int), .int .u64 (0:Int), .bool false]] [.agg [.int .u64, .int .u64], .lf .bool] fun (r25 : (Int × Int) × Bool) =>
  new [.int .u64 (0:Int), .int .u64 (0:Int)] fun n26 =>
  st ⟨n26, 0⟩ (Ks.mk [.int .u64, .int .u64] r25.1) <|
  call Try.prog 39 [.lf (.ptr none)] [.agg [.int .u64, .int .u64], .lf .bool] fun (r27 : (Int × Int) × Bool) =>
  new [.int .u64 (0:Int), .int .u64 (0:Int)] fun n28 =>
  st ⟨n28, 0⟩ (Ks.mk [.int .u64, .int .u64] r27.1) <|
  ite' ((!r21.2) && (r23 == (IntKind.u64.wrap ((IntKind.u64.wrap (IntKind.i64.wrap ((IntKind.i64.wrap ((4:Int) + (IntKind.i64.wrap ((IntKind.u64.wrap d).tmod (20:Int))))) - (3:Int)))) * (IntKind.u64.wrap ((1:Int) + (o.tmod (5000:Int)))))))) (
  call Try.prog 44 [.lf (.ptr r1)] [.lf (.int .u64)] fun (r29 : Int) =>
  ite' (r29 == (0:Int)) (
  call Try.prog 15 [.lf (.ptr none), .lf (.int .u64 (0:Int)), .lf (.int .u64 (1:Int)), .agg [.int .u64 (0:Int), .int .u64 (0:Int), .int .u64 (0:Int), .int .u64 (0:Int), .bool false]] [.lf (.int .i64)] fun (r30 : Int) =>
  ite' ((r30 == (2:Int)) && (r24.2.2 == (2:Int))) (
  call Try.prog 44 [.lf (.ptr none)] [.lf (.int .u64)] fun (r31 : Int) =>
  ite' (((r31 == (0:Int)) && (!r25.2)) && (!r27.2)) (
  call Try.prog 17 [.lf (.ptr none)] [.lf (.int .u64)] fun (r32 : Int) =>
  ite' (r32 == (0:Int)) (
  call Try.prog 16 [.lf (.ptr none)] [.lf (.int .u64)] fun (r33 : Int) =>
  R (r33 == (0:Int))) <|
  R false) <|
  R false) <|
  R false) <|
  R false) <|
  R false
theorem sem_canterlaw24_BoardLosses (d : Int) (o : Int) (R : Rs.T [.lf .bool] → WP) : Same (semF Try.prog Try.f11 (.s .o (.s .o (.s .o (.s (.s .o (.s (.s .o .o) .o)) (.s (.s .o (.b (.l [(6, .lf (.int .i64))] (.s (.s .o (.s .o .o)) (.s (.b .o) .o))))) (.s .o (.s .o (.s .o (.j [] (.s .o (.s (.s .o .o) .o)) (.s (.s .o (.b (.l [(14, .lf (.int .i64))] (.s (.s .o (.s .o .o)) (.s (.b (.s .o (.j [(153, .lf .bool)] .o (.s (.s .o .o) .o)))) .o))))) (.s .o (.s .o (.s .o (.s .o (.s .o (.s .o (.s .o .o))))))))))))))))) [.lf (.int .i64 d), .lf (.int .u64 o)] [.lf .bool] R) (fun w => W_canterlaw24_BoardLosses d o R w) := ⟨by kernel_rfl⟩
theorem call_canterlaw24_BoardLosses (d : Int) (o : Int) (R : Rs.T [.lf .bool] → WP) (w : World) (h : W_canterlaw24_BoardLosses d o R w) :
    CallX Try.prog 11 ([.lf (.int .i64 d), .lf (.int .u64 o)].map V1.enc) w fun v w' => ∃ x, v = (retTV (Rs.mk [.lf .bool] x)).enc ∧ R x w' :=
  callX_of_semF Try.func11 (by kernel_rfl) (by kernel_rfl) (sem_canterlaw24_BoardLosses d o R) h

/-- canter/board.New -/
def W_board_New  (R : Rs.T [.lf .ptr] → WP) : WP :=
  new [.sl ⟨none, 0, 0⟩, .int .u64 (0:Int)] fun n1 =>
  R (some ⟨n1, 0⟩)
theorem sem_board_New  (R : Rs.T [.lf .ptr] → WP) : Same (semF Try.prog Try.f13 (.s .o (.s .o .o)) [] [.lf .ptr] R) (fun w => W_board_New  R w) := ⟨by kernel_rfl⟩
theorem call_board_New  (R : Rs.T [.lf .ptr] → WP) (w : World) (h : W_board_New  R w) :
    CallX Try.prog 13 ([].map V1.enc) w fun v w' => ∃ x, v = (retTV (Rs.mk [.lf .ptr] x)).enc ∧ R x w' :=
  callX_of_semF Try.func13 (by kernel_rfl) (by kernel_rfl) (sem_board_New  R) h

/-- canter/canterlaw24.awake -/
def W_canterlaw24_awake  (R : Rs.T [.lf .bool] → WP) : WP :=
  call Try.prog 13 [] [.lf .ptr] fun (r1 : Option Pt) =>
  join [.bool] (fun J2 =>
  ite' r1.isNone (
  J2 true) <|
  call Try.prog 15 [.lf (.ptr r1), .lf (.int .u64 (0:Int)), .lf (.int .u64 (10:Int)), .agg [.int .u64 (0:Int), .int .u64 (0:Int), .int .u64 (0:Int), .int .u64 (0:Int), .bool false]] [.lf (.int .i64)] fun (r4 : Int) =>
  ite' (r4 != (0:Int)) (
  J2 true) <|
  call Try.prog 17 [.lf (.ptr r1)] [.lf (.int .u64)] fun (r5 : Int) =>
  J2 (r5 != (10:Int))) fun (y3 : Bool) =>
  ite' y3 (
  R false) <|
  call Try.prog 20 [.lf (.ptr r1), .lf (.int .u64 (10:Int)), .lf (.sl ⟨none, 0, 0⟩)] [.lf .sl, .lf (.int .u64), .lf (.int .i64)] fun (r6 : Sl × Int × Int) =>
  ite' ((r6.2.2 == (0:Int)) && (((r6.1.len : Nat) : Int) == (1:Int))) (
  call Try.prog 17 [.lf (.ptr r1)] [.lf (.int .u64)] fun (r7 : Int) =>
  ite' (r7 == (0:Int)) (
  call Try.prog 16 [.lf (.ptr r1)] [.lf (.int .u64)] fun (r8 : Int) =>
  ite' (r8 == (10:Int)) (
  call Try.prog 19 [.lf (.ptr r1)] [.lf .fn] fun (r9 : Fv) =>
  call Try.prog 18 [.lf (.fn r9), .lf (.int .i64 (9:Int))] [.lf .sl] fun (r10 : Sl) =>
  R (((r10.len : Nat) : Int) == (0:Int))) <|
  R false) <|
  R false) <|
  R false
theorem sem_canterlaw24_awake  (R : Rs.T [.lf .bool] → WP) : Same (semF Try.prog Try.f14 (.s .o (.s .o (.s (.j [(18, .lf .bool)] .o (.s (.s .o .o) .o)) (.s .o (.s .o .o))))) [] [.lf .bool] R) (fun w => W_canterlaw24_awake  R w) := ⟨by kernel_rfl⟩
theorem call_canterlaw24_awake  (R : Rs.T [.lf .bool] → WP) (w : World) (h : W_canterlaw24_awake  R w) :
    CallX Try.prog 14 ([].map V1.enc) w fun v w' => ∃ x, v = (retTV (Rs.mk [.lf .bool] x)).enc ∧ R x w' :=
  callX_of_semF Try.func14 (by kernel_rfl) (by kernel_rfl) (sem_canterlaw24_awake  R) h

/-- (*canter/board.Board).Sent -/
def W_board_Board_Sent (b : Option Pt) (from' : Int) (to' : Int) (s : T_u4b) (R : Rs.T [.lf (.int .i64)] → WP) : WP :=
  new (Ks.mk K_u4b s) fun n1 =>
  ite' b.isNone (
  R (2:Int)) <|
  deref b fun q2 =>
  ld [.int .u64] ⟨q2.b, q2.o + 1⟩ fun (x3 : Int) =>
  ite' ((from' != x3) || (decide (to' ≤ from'))) (
  R (1:Int)) <|
  deref b fun q4 =>
  ld [.sl] q4 fun (x5 : Sl) =>
  ite' (decide (((x5.len : Nat) : Int) ≥ (4096:Int))) (
  R (5:Int)) <|
  drw <|
  ld K_u4b ⟨n1, 0⟩ fun (x6 : T_u4b) =>
  deref b fun q7 =>
  ld [.sl] q7 fun (x8 : Sl) =>
  new [.int .u64 from', .int .u64 to', .int .u64 x6.1, .int .u64 x6.2.1, .int .u64 x6.2.2.1, .int .u64 x6.2.2.2.1, .bool x6.2.2.2.2, .bool false, .bool false] fun n9 =>
  chk q7 (Ks.mk [.sl] x8) <|
  app 9 x8 ⟨some ⟨n9, 0⟩, 1, 1⟩ fun s10 =>
  deref b fun q11 =>
  st q11 [.sl s10] <|
  deref b fun q12 =>
  st ⟨q12.b, q12.o + 1⟩ [.int .u64 to'] <|
  R (0:Int)
theorem sem_board_Board_Sent (b : Option Pt) (from' : Int) (to' : Int) (s : T_u4b) (R : Rs.T [.lf (.int .i64)] → WP) : Same (semF Try.prog Try.f15 (.s .o (.s (.b (.s .o (.s (.s .o .o) (.s .o (.s (.s .o .o) (.s .o (.s (.s .o .o) .o))))))) (.s (.d (.f 0 [0] (.f 1 [0] (.f 5 [1] (.f 6 [2] (.f 7 [7] (.f 2 [32] (.f 8 [36, 37, 38] (.f 3 [33] (.f 4 [34] (.w 9 [39] (.w 10 [35, 40] (.f 11 [31] (.f 12 [42] (.w 13 [41, 43] .fin))))))))))))))) (.s .o (.s .o .o))))) [.lf (.ptr b), .lf (.int .u64 from'), .lf (.int .u64 to'), .agg (Ks.mk K_u4b s)] [.lf (.int .i64)] R) (fun w => W_board_Board_Sent b from' to' s R w) := ⟨by kernel_rfl⟩
theorem call_board_Board_Sent (b : Option Pt) (from' : Int) (to' : Int) (s : T_u4b) (R : Rs.T [.lf (.int .i64)] → WP) (w : World) (h : W_board_Board_Sent b from' to' s R w) :
    CallX Try.prog 15 ([.lf (.ptr b), .lf (.int .u64 from'), .lf (.int .u64 to'), .agg (Ks.mk K_u4b s)].map V1.enc) w fun v w' => ∃ x, v = (retTV (Rs.mk [.lf (.int .i64)] x)).enc ∧ R x w' :=
  callX_of_semF Try.func15 (by kernel_rfl) (by kernel_rfl) (sem_board_Board_Sent b from' to' s R) h

/-- (*canter/board.Board).End -/
def W_board_Board_End (b : Option Pt) (R : Rs.T [.lf (.int .u64)] → WP) : WP :=
  ite' b.isNone (
  R (0:Int)) <|
  deref b fun q1 =>
  ld [.int .u64] ⟨q1.b, q1.o + 1⟩ fun (x2 : Int) =>
  R x2
theorem sem_board_Board_End (b : Option Pt) (R : Rs.T [.lf (.int .u64)] → WP) : Same (semF Try.prog Try.f16 (.s .o (.s (.s .o (.s (.s .o .o) .o)) (.s .o .o))) [.lf (.ptr b)] [.lf (.int .u64)] R) (fun w => W_board_Board_End b R w) := ⟨by kernel_rfl⟩
theorem call_board_Board_End (b : Option Pt) (R : Rs.T [.lf (.int .u64)] → WP) (w : World) (h : W_board_Board_End b R w) :
    CallX Try.prog 16 ([.lf (.ptr b)].map V1.enc) w fun v w' => ∃ x, v = (retTV (Rs.mk [.lf (.int .u64)] x)).enc ∧ R x w' :=
  callX_of_semF Try.func16 (by kernel_rfl) (by kernel_rfl) (sem_board_Board_End b R) h

/-- (*canter/board.Board).Flight -/
def W_board_Board_Flight (n0 : Nat) (b : Option Pt) (R : Rs.T [.lf (.int .u64)] → WP) : WP :=
  new [.int .u64 (0:Int)] fun n1 =>
  st ⟨n1, 0⟩ [.int .u64 (0:Int)] <|
  call Try.prog 19 [.lf (.ptr b)] [.lf .fn] fun (r2 : Fv) =>
  rangeF Try.prog r2 [.agg K_u6b3] (fun (v3 : T_u6b3) mid4 next5 jump6 =>
  new [.int .u64 (0:Int), .int .u64 (0:Int), .int .u64 (0:Int), .int .u64 (0:Int), .int .u64 (0:Int), .int .u64 (0:Int), .bool false, .bool false, .bool false] fun n7 =>
  st ⟨n7, 0⟩ (Ks.mk K_u6b3 v3) <|
  mid4 <|
  ld K_u6b3 ⟨n7, 0⟩ fun (x8 : T_u6b3) =>
  call Try.prog 47 [.agg (Ks.mk K_u6b3 x8)] [.lf .bool] fun (r9 : Bool) =>
  ite' r9 (
  ld [.int .u64] ⟨n1, 0⟩ fun (x10 : Int) =>
  ld [.int .u64] ⟨n7, 1⟩ fun (x11 : Int) =>
  ld [.int .u64] ⟨n7, 0⟩ fun (x12 : Int) =>
  st ⟨n1, 0⟩ [.int .u64 (IntKind.u64.wrap (x10 + (IntKind.u64.wrap (x11 - x12))))] <|
  next5) <|
  next5) fun i13 => isBy 0 i13 (ld [.int .u64] ⟨n1, 0⟩ fun (x14 : Int) =>
  leave n0 <| R x14) <|
  wno
theorem sem_board_Board_Flight (b : Option Pt) (R : Rs.T [.lf (.int .u64)] → WP) : Same (semF Try.prog Try.f17 (.s .o (.s .o (.s (.s .o (.b (.r [.agg K_u6b3] .o (.b (.s .o (.s .o .o)))))) (.s .o .o)))) [.lf (.ptr b)] [.lf (.int .u64)] R) (fun w => W_board_Board_Flight w.heap.size b R w) := ⟨by kernel_rfl⟩
theorem call_board_Board_Flight (b : Option Pt) (R : Rs.T [.lf (.int .u64)] → WP) (w : World) (h : W_board_Board_Flight w.heap.size b R w) :
    CallX Try.prog 17 ([.lf (.ptr b)].map V1.enc) w fun v w' => ∃ x, v = (retTV (Rs.mk [.lf (.int .u64)] x)).enc ∧ R x w' :=
  callX_of_semF Try.func17 (by kernel_rfl) (by kernel_rfl) (sem_board_Board_Flight b R) h

/-- canter/canterhelp.All[canter/api.Piece] -/
def W_canterhelp_All_apiPiece (f : Fv) (most : Int) (R : Rs.T [.lf .sl] → WP) : WP :=
  new [.int .i64 most] fun n1 =>
  new [.sl ⟨none, 0, 0⟩] fun n2 =>
  ite' (isNilF f) (
  R ⟨none, 0, 0⟩) <|
  callv Try.prog f [.lf (.fn (.mk (.func 48) [] [V1.enc (.lf (.ptr (some ⟨n2, 0⟩))), V1.enc (.lf (.ptr (some ⟨n1, 0⟩)))]))] [] fun (r3 : Unit) =>
  ld [.sl] ⟨n2, 0⟩ fun (x4 : Sl) =>
  R x4
theorem sem_canterhelp_All_apiPiece (f : Fv) (most : Int) (R : Rs.T [.lf .sl] → WP) : Same (semF Try.prog Try.f18 (.s .o (.s .o (.s (.s .o (.s (.s .o .o) .o)) (.s .o (.s .o .o))))) [.lf (.fn f), .lf (.int .i64 most)] [.lf .sl] R) (fun w => W_canterhelp_All_apiPiece f most R w) := ⟨by kernel_rfl⟩
theorem call_canterhelp_All_apiPiece (f : Fv) (most : Int) (R : Rs.T [.lf .sl] → WP) (w : World) (h : W_canterhelp_All_apiPiece f most R w) :
    CallX Try.prog 18 ([.lf (.fn f), .lf (.int .i64 most)].map V1.enc) w fun v w' => ∃ x, v = (retTV (Rs.mk [.lf .sl] x)).enc ∧ R x w' :=
  callX_of_semF Try.func18 (by kernel_rfl) (by kernel_rfl) (sem_canterhelp_All_apiPiece f most R) h

/-- (*canter/board.Board).All -/
def W_board_Board_All (b : Option Pt) (R : Rs.T [.lf .fn] → WP) : WP :=
  new [.ptr b] fun n1 =>
  R (.mk (.func 49) [] [V1.enc (.lf (.ptr (some ⟨n1, 0⟩)))])
theorem sem_board_Board_All (b : Option Pt) (R : Rs.T [.lf .fn] → WP) : Same (semF Try.prog Try.f19 (.s .o (.s .o .o)) [.lf (.ptr b)] [.lf .fn] R) (fun w => W_board_Board_All b R w) := ⟨by kernel_rfl⟩
theorem call_board_Board_All (b : Option Pt) (R : Rs.T [.lf .fn] → WP) (w : World) (h : W_board_Board_All b R w) :
    CallX Try.prog 19 ([.lf (.ptr b)].map V1.enc) w fun v w' => ∃ x, v = (retTV (Rs.mk [.lf .fn] x)).enc ∧ R x w' :=
  callX_of_semF Try.func19 (by kernel_rfl) (by kernel_rfl) (sem_board_Board_All b R) h

/-- (*canter/board.Board).Ack -/
def W_board_Board_Ack (d : Option Pt) (o : Int) (a : Sl) (R : Rs.T [.lf .sl, .lf (.int .u64), .lf (.int .i64)] → WP) : WP :=
  ite' d.isNone (
  R (⟨none, 0, 0⟩, (0:Int), (2:Int))) <|
  call Try.prog 50 [.lf (.ptr d), .lf (.int .u64 o), .lf (.sl a)] [.lf .bool] fun (r1 : Bool) =>
  ite' (!r1) (
  R (⟨none, 0, 0⟩, (0:Int), (11:Int))) <|
  deref d fun q2 =>
  ld [.sl] q2 fun (x3 : Sl) =>
  loop K_s2i (⟨none, 0, 0⟩, ⟨none, 0, 0⟩, (0:Int)) fun J4 (y5 : T_s2i) =>
  ite' (decide (y5.2.2 < ((x3.len : Nat) : Int))) (
  idx x3 y5.2.2 9 fun q6 =>
  ld K_u6b3 q6 fun (x7 : T_u6b3) =>
  new [.int .u64 (0:Int), .int .u64 (0:Int), .int .u64 (0:Int), .int .u64 (0:Int), .int .u64 (0:Int), .int .u64 (0:Int), .bool false, .bool false, .bool false] fun n8 =>
  st ⟨n8, 0⟩ (Ks.mk K_u6b3 x7) <|
  ld [.int .u64] ⟨n8, 1⟩ fun (x9 : Int) =>
  join [.sl] (fun J10 =>
  join [.bool] (fun J12 =>
  ld [.bool] ⟨n8, 7⟩ fun (x14 : Bool) =>
  ite' (!x14) (
  ite' (decide (x9 ≤ o)) (
  J12 true) <|
  ld K_u6b3 ⟨n8, 0⟩ fun (x15 : T_u6b3) =>
  call Try.prog 51 [.lf (.sl a), .agg (Ks.mk K_u6b3 x15)] [.lf .bool] fun (r16 : Bool) =>
  J12 r16) <|
  J12 false) fun (y13 : Bool) =>
  ite' y13 (
  ld K_u6b3 ⟨n8, 0⟩ fun (x17 : T_u6b3) =>
  new [.int .u64 x17.1, .int .u64 x17.2.1, .int .u64 x17.2.2.1, .int .u64 x17.2.2.2.1, .int .u64 x17.2.2.2.2.1, .int .u64 x17.2.2.2.2.2.1, .bool x17.2.2.2.2.2.2.1, .bool x17.2.2.2.2.2.2.2.1, .bool x17.2.2.2.2.2.2.2.2] fun n18 =>
  app 9 y5.1 ⟨some ⟨n18, 0⟩, 1, 1⟩ fun s19 =>
  st ⟨n8, 7⟩ [.bool true] <|
  st ⟨n8, 8⟩ [.bool false] <|
  J10 s19) <|
  J10 y5.1) fun (y11 : Sl) =>
  ite' (decide (x9 ≤ o)) (
  J4 (y11, y5.2.1, (IntKind.i64.wrap (y5.2.2 + (1:Int))))) <|
  ld K_u6b3 ⟨n8, 0⟩ fun (x20 : T_u6b3) =>
  new [.int .u64 x20.1, .int .u64 x20.2.1, .int .u64 x20.2.2.1, .int .u64 x20.2.2.2.1, .int .u64 x20.2.2.2.2.1, .int .u64 x20.2.2.2.2.2.1, .bool x20.2.2.2.2.2.2.1, .bool x20.2.2.2.2.2.2.2.1, .bool x20.2.2.2.2.2.2.2.2] fun n21 =>
  app 9 y5.2.1 ⟨some ⟨n21, 0⟩, 1, 1⟩ fun s22 =>
  J4 (y11, s22, (IntKind.i64.wrap (y5.2.2 + (1:Int))))) <|
  deref d fun q23 =>
  st q23 [.sl y5.2.1] <|
  call Try.prog 52 [.lf (.ptr d)] [.lf (.int .u64)] fun (r24 : Int) =>
  R (y5.1, r24, (0:Int))
theorem sem_board_Board_Ack (d : Option Pt) (o : Int) (a : Sl) (R : Rs.T [.lf .sl, .lf (.int .u64), .lf (.int .i64)] → WP) : Same (semF Try.prog Try.f20 (.s .o (.s (.b (.s .o (.s (.s .o .o) (.s .o (.s (.s .o .o) .o))))) (.s .o (.s .o (.s (.s .o (.b (.l [(9, .lf .sl), (10, .lf .sl), (28, .lf (.int .i64))] (.s .o (.s (.s .o .o) (.s (.b (.s .o (.s .o (.j [(9, .lf .sl)] (.j [(46, .lf .bool)] .o (.s (.s .o .o) .o)) (.s (.s .o (.s .o .o)) .o))))) .o)))))) (.s .o (.s .o .o))))))) [.lf (.ptr d), .lf (.int .u64 o), .lf (.sl a)] [.lf .sl, .lf (.int .u64), .lf (.int .i64)] R) (fun w => W_board_Board_Ack d o a R w) := ⟨by kernel_rfl⟩
theorem call_board_Board_Ack (d : Option Pt) (o : Int) (a : Sl) (R : Rs.T [.lf .sl, .lf (.int .u64), .lf (.int .i64)] → WP) (w : World) (h : W_board_Board_Ack d o a R w) :
    CallX Try.prog 20 ([.lf (.ptr d), .lf (.int .u64 o), .lf (.sl a)].map V1.enc) w fun v w' => ∃ x, v = (retTV (Rs.mk [.lf .sl, .lf (.int .u64), .lf (.int .i64)] x)).enc ∧ R x w' :=
  callX_of_semF Try.func20 (by kernel_rfl) (by kernel_rfl) (sem_board_Board_Ack d o a R) h

/-- canter/canterhelp.Plain[canter/api.Piece] -/
def W_canterhelp_Plain_apiPiece (a : Sl) (b : Sl) (R : Rs.T [.lf .bool] → WP) : WP :=
  call Try.prog 53 [.lf (.sl a), .lf (.sl b), .lf (.fn (.mk (.func 54) [] []))] [.lf .bool] fun (r1 : Bool) =>
  R r1
theorem sem_canterhelp_Plain_apiPiece (a : Sl) (b : Sl) (R : Rs.T [.lf .bool] → WP) : Same (semF Try.prog Try.f21 (.s .o (.s .o .o)) [.lf (.sl a), .lf (.sl b)] [.lf .bool] R) (fun w => W_canterhelp_Plain_apiPiece a b R w) := ⟨by kernel_rfl⟩
theorem call_canterhelp_Plain_apiPiece (a : Sl) (b : Sl) (R : Rs.T [.lf .bool] → WP) (w : World) (h : W_canterhelp_Plain_apiPiece a b R w) :
    CallX Try.prog 21 ([.lf (.sl a), .lf (.sl b)].map V1.enc) w fun v w' => ∃ x, v = (retTV (Rs.mk [.lf .bool] x)).enc ∧ R x w' :=
  callX_of_semF Try.func21 (by kernel_rfl) (by kernel_rfl) (sem_canterhelp_Plain_apiPiece a b R) h

/-- (*canter/board.Board).Lost -/
def W_board_Board_Lost (b : Option Pt) (R : Rs.T [.agg [.int .u64, .int .u64], .lf .bool] → WP) : WP :=
  new [.int .u64 (0:Int), .int .u64 (0:Int)] fun n1 =>
  call Try.prog 63 [.lf (.ptr b)] [.lf (.int .i64)] fun (r2 : Int) =>
  ite' (decide (r2 < (0:Int))) (
  st ⟨n1, 0⟩ [.int .u64 (0:Int), .int .u64 (0:Int)] <|
  ld [.int .u64, .int .u64] ⟨n1, 0⟩ fun (x3 : Int × Int) =>
  R (x3, false)) <|
  drw <|
  deref b fun q4 =>
  deref b fun q5 =>
  ld [.sl] q4 fun (x6 : Sl) =>
  ld [.sl] q5 fun (x7 : Sl) =>
  idx x6 r2 9 fun q8 =>
  idx x7 r2 9 fun q9 =>
  ld [.int .u64] q8 fun (x10 : Int) =>
  ld [.int .u64] ⟨q9.b, q9.o + 1⟩ fun (x11 : Int) =>
  st ⟨n1, 0⟩ [.int .u64 x10, .int .u64 x11] <|
  ld [.int .u64, .int .u64] ⟨n1, 0⟩ fun (x12 : Int × Int) =>
  R (x12, true)
theorem sem_board_Board_Lost (b : Option Pt) (R : Rs.T [.agg [.int .u64, .int .u64], .lf .bool] → WP) : Same (semF Try.prog Try.f39 (.s .o (.s .o (.s (.s .o (.s (.s .o .o) .o)) (.s (.d (.f 0 [0] (.f 4 [4] (.f 8 [0] (.f 12 [4] (.f 1 [10] (.f 9 [18] (.f 2 [11] (.f 10 [19] (.f 3 [12] (.f 11 [20] (.f 5 [13, 14] (.f 13 [21, 22] (.f 6 [15] (.f 14 [23] (.f 7 [16] (.f 15 [24] (.f 16 [17, 25] (.w 17 [2, 26] (.w 18 [] .fin)))))))))))))))))))) .o)))) [.lf (.ptr b)] [.agg [.int .u64, .int .u64], .lf .bool] R) (fun w => W_board_Board_Lost b R w) := ⟨by kernel_rfl⟩
theorem call_board_Board_Lost (b : Option Pt) (R : Rs.T [.agg [.int .u64, .int .u64], .lf .bool] → WP) (w : World) (h : W_board_Board_Lost b R w) :
    CallX Try.prog 39 ([.lf (.ptr b)].map V1.enc) w fun v w' => ∃ x, v = (retTV (Rs.mk [.agg [.int .u64, .int .u64], .lf .bool] x)).enc ∧ R x w' :=
  callX_of_semF Try.func39 (by kernel_rfl) (by kernel_rfl) (sem_board_Board_Lost b R) h

/-- (*canter/board.Board).Lose -/
def W_board_Board_Lose (b : Option Pt) (R : Rs.T [.lf (.int .u64)] → WP) : WP :=
  ite' b.isNone (
  R (0:Int)) <|
  deref b fun q1 =>
  ld [.sl] q1 fun (x2 : Sl) =>
  loop [.int .u64, .int .i64] ((0:Int), (0:Int)) fun J3 (y4 : Int × Int) =>
  ite' (decide (y4.2 < ((x2.len : Nat) : Int))) (
  idx x2 y4.2 9 fun q5 =>
  ld K_u6b3 q5 fun (x6 : T_u6b3) =>
  new [.int .u64 (0:Int), .int .u64 (0:Int), .int .u64 (0:Int), .int .u64 (0:Int), .int .u64 (0:Int), .int .u64 (0:Int), .bool false, .bool false, .bool false] fun n7 =>
  st ⟨n7, 0⟩ (Ks.mk K_u6b3 x6) <|
  ld K_u6b3 ⟨n7, 0⟩ fun (x8 : T_u6b3) =>
  call Try.prog 47 [.agg (Ks.mk K_u6b3 x8)] [.lf .bool] fun (r9 : Bool) =>
  ite' r9 (
  deref b fun q10 =>
  ld [.sl] q10 fun (x11 : Sl) =>
  idx x11 y4.2 9 fun q12 =>
  st ⟨q12.b, q12.o + 8⟩ [.bool true] <|
  ld [.int .u64] ⟨n7, 1⟩ fun (x13 : Int) =>
  ld [.int .u64] ⟨n7, 0⟩ fun (x14 : Int) =>
  J3 ((IntKind.u64.wrap (y4.1 + (IntKind.u64.wrap (x13 - x14)))), (IntKind.i64.wrap (y4.2 + (1:Int))))) <|
  J3 (y4.1, (IntKind.i64.wrap (y4.2 + (1:Int))))) <|
  R y4.1
theorem sem_board_Board_Lose (b : Option Pt) (R : Rs.T [.lf (.int .u64)] → WP) : Same (semF Try.prog Try.f44 (.s .o (.s (.s .o (.s (.s .o .o) .o)) (.s .o (.s (.s .o (.b (.l [(3, .lf (.int .u64)), (13, .lf (.int .i64))] (.s .o (.s (.s .o .o) (.s (.b (.s .o (.s .o (.s (.s .o .o) .o)))) .o)))))) (.s .o .o))))) [.lf (.ptr b)] [.lf (.int .u64)] R) (fun w => W_board_Board_Lose b R w) := ⟨by kernel_rfl⟩
theorem call_board_Board_Lose (b : Option Pt) (R : Rs.T [.lf (.int .u64)] → WP) (w : World) (h : W_board_Board_Lose b R w) :
    CallX Try.prog 44 ([.lf (.ptr b)].map V1.enc) w fun v w' => ∃ x, v = (retTV (Rs.mk [.lf (.int .u64)] x)).enc ∧ R x w' :=
  callX_of_semF Try.func44 (by kernel_rfl) (by kernel_rfl) (sem_board_Board_Lose b R) h

/-- (*canter/board.Board).Again -/
def W_board_Board_Again (b : Option Pt) (s : T_u4b) (R : Rs.T [.agg [.int .u64, .int .u64], .lf .bool] → WP) : WP :=
  new (Ks.mk K_u4b s) fun n1 =>
  new [.int .u64 (0:Int), .int .u64 (0:Int)] fun n2 =>
  call Try.prog 39 [.lf (.ptr b)] [.agg [.int .u64, .int .u64], .lf .bool] fun (r3 : (Int × Int) × Bool) =>
  new [.int .u64 (0:Int), .int .u64 (0:Int)] fun n4 =>
  st ⟨n4, 0⟩ (Ks.mk [.int .u64, .int .u64] r3.1) <|
  join [] (fun J5 =>
  ite' r3.2 (
  drw <|
  deref b fun q7 =>
  ld [.sl] q7 fun (x8 : Sl) =>
  call Try.prog 63 [.lf (.ptr b)] [.lf (.int .i64)] fun (r9 : Int) =>
  chk q7 (Ks.mk [.sl] x8) <|
  idx x8 r9 9 fun q10 =>
  drw <|
  ld K_u4b ⟨n1, 0⟩ fun (x11 : T_u4b) =>
  deref (some q10) fun q12 =>
  st ⟨q12.b, q12.o + 8⟩ [.bool false] <|
  chk ⟨n1, 0⟩ (Ks.mk K_u4b x11) <|
  deref (some q10) fun q13 =>
  st ⟨q13.b, q13.o + 2⟩ (Ks.mk K_u4b x11) <|
  J5 ()) <|
  J5 ()) fun (y6 : Unit) =>
  ld [.int .u64, .int .u64] ⟨n4, 0⟩ fun (x14 : Int × Int) =>
  st ⟨n2, 0⟩ (Ks.mk [.int .u64, .int .u64] x14) <|
  ld [.int .u64, .int .u64] ⟨n2, 0⟩ fun (x15 : Int × Int) =>
  R (x15, r3.2)
theorem sem_board_Board_Again (b : Option Pt) (s : T_u4b) (R : Rs.T [.agg [.int .u64, .int .u64], .lf .bool] → WP) : Same (semF Try.prog Try.f45 (.s .o (.s .o (.j [] (.s .o (.s (.s (.d (.f 0 [0] (.f 4 [0] (.f 1 [15] (.f 2 [16] (.f 3 [17] (.w 5 [19] (.f 6 [18, 20] (.w 7 [21] .fin))))))))) (.d (.f 0 [8] (.f 1 [8] (.f 2 [3] (.f 3 [22] (.f 4 [25] (.w 5 [26] (.f 6 [23] (.f 7 [27] (.w 8 [24, 28] .fin))))))))))) .o)) (.s .o .o)))) [.lf (.ptr b), .agg (Ks.mk K_u4b s)] [.agg [.int .u64, .int .u64], .lf .bool] R) (fun w => W_board_Board_Again b s R w) := ⟨by kernel_rfl⟩
theorem call_board_Board_Again (b : Option Pt) (s : T_u4b) (R : Rs.T [.agg [.int .u64, .int .u64], .lf .bool] → WP) (w : World) (h : W_board_Board_Again b s R w) :
    CallX Try.prog 45 ([.lf (.ptr b), .agg (Ks.mk K_u4b s)].map V1.enc) w fun v w' => ∃ x, v = (retTV (Rs.mk [.agg [.int .u64, .int .u64], .lf .bool] x)).enc ∧ R x w' :=
  callX_of_semF Try.func45 (by kernel_rfl) (by kernel_rfl) (sem_board_Board_Again b s R) h

/-- canter/board.flying -/
def W_board_flying (p : T_u6b3) (R : Rs.T [.lf .bool] → WP) : WP :=
  new (Ks.mk K_u6b3 p) fun n1 =>
  ld [.bool] ⟨n1, 7⟩ fun (x2 : Bool) =>
  ite' (!x2) (
  ld [.bool] ⟨n1, 8⟩ fun (x3 : Bool) =>
  R (!x3)) <|
  R false
theorem sem_board_flying (p : T_u6b3) (R : Rs.T [.lf .bool] → WP) : Same (semF Try.prog Try.f47 (.s .o (.s .o .o)) [.agg (Ks.mk K_u6b3 p)] [.lf .bool] R) (fun w => W_board_flying p R w) := ⟨by kernel_rfl⟩
theorem call_board_flying (p : T_u6b3) (R : Rs.T [.lf .bool] → WP) (w : World) (h : W_board_flying p R w) :
    CallX Try.prog 47 ([.agg (Ks.mk K_u6b3 p)].map V1.enc) w fun v w' => ∃ x, v = (retTV (Rs.mk [.lf .bool] x)).enc ∧ R x w' :=
  callX_of_semF Try.func47 (by kernel_rfl) (by kernel_rfl) (sem_board_flying p R) h

/-- canter/canterhelp.All[canter/api.Piece]$1 -/
def W_canterhelp_All_apiPiece_c1 (x : T_u6b3) (c0 : Pt) (c1 : Pt) (R : Rs.T [.lf .bool] → WP) : WP :=
  new (Ks.mk K_u6b3 x) fun n1 =>
  ld [.sl] c0 fun (x2 : Sl) =>
  ld K_u6b3 ⟨n1, 0⟩ fun (x3 : T_u6b3) =>
  new [.int .u64 x3.1, .int .u64 x3.2.1, .int .u64 x3.2.2.1, .int .u64 x3.2.2.2.1, .int .u64 x3.2.2.2.2.1, .int .u64 x3.2.2.2.2.2.1, .bool x3.2.2.2.2.2.2.1, .bool x3.2.2.2.2.2.2.2.1, .bool x3.2.2.2.2.2.2.2.2] fun n4 =>
  app 9 x2 ⟨some ⟨n4, 0⟩, 1, 1⟩ fun s5 =>
  st c0 [.sl s5] <|
  ld [.sl] c0 fun (x6 : Sl) =>
  ld [.int .i64] c1 fun (x7 : Int) =>
  R (decide (((x6.len : Nat) : Int) < x7))
theorem sem_canterhelp_All_apiPiece_c1 (x : T_u6b3) (c0 : Pt) (c1 : Pt) (R : Rs.T [.lf .bool] → WP) : Same (semF Try.prog Try.f48 (.s .o (.s .o (.s .o .o))) [.agg (Ks.mk K_u6b3 x), .lf (.ptr (some c0)), .lf (.ptr (some c1))] [.lf .bool] R) (fun w => W_canterhelp_All_apiPiece_c1 x c0 c1 R w) := ⟨by kernel_rfl⟩
theorem call_canterhelp_All_apiPiece_c1 (x : T_u6b3) (c0 : Pt) (c1 : Pt) (R : Rs.T [.lf .bool] → WP) (w : World) (h : W_canterhelp_All_apiPiece_c1 x c0 c1 R w) :
    CallX Try.prog 48 ([.agg (Ks.mk K_u6b3 x), .lf (.ptr (some c0)), .lf (.ptr (some c1))].map V1.enc) w fun v w' => ∃ x, v = (retTV (Rs.mk [.lf .bool] x)).enc ∧ R x w' :=
  callX_of_semF Try.func48 (by kernel_rfl) (by kernel_rfl) (sem_canterhelp_All_apiPiece_c1 x c0 c1 R) h

/-- (*canter/board.Board).All$1 -/
def W_board_Board_All_c1 (yield : Fv) (c0 : Pt) (R : Rs.T [] → WP) : WP :=
  ld [.ptr] c0 fun (x1 : Option Pt) =>
  ite' x1.isNone (
  R ()) <|
  ld [.ptr] c0 fun (x2 : Option Pt) =>
  deref x2 fun q3 =>
  ld [.sl] q3 fun (x4 : Sl) =>
  loop [.int .i64] (0:Int) fun J5 (y6 : Int) =>
  ite' (decide (y6 < ((x4.len : Nat) : Int))) (
  idx x4 y6 9 fun q7 =>
  ld K_u6b3 q7 fun (x8 : T_u6b3) =>
  new [.int .u64 (0:Int), .int .u64 (0:Int), .int .u64 (0:Int), .int .u64 (0:Int), .int .u64 (0:Int), .int .u64 (0:Int), .bool false, .bool false, .bool false] fun n9 =>
  st ⟨n9, 0⟩ (Ks.mk K_u6b3 x8) <|
  ld K_u6b3 ⟨n9, 0⟩ fun (x10 : T_u6b3) =>
  callv Try.prog yield [.agg (Ks.mk K_u6b3 x10)] [.lf .bool] fun (r11 : Bool) =>
  ite' (!r11) (
  R ()) <|
  J5 (IntKind.i64.wrap (y6 + (1:Int)))) <|
  R ()
theorem sem_board_Board_All_c1 (yield : Fv) (c0 : Pt) (R : Rs.T [] → WP) : Same (semF Try.prog Try.f49 (.s (.s .o (.s .o .o)) (.s .o (.b (.l [(12, .lf (.int .i64))] (.s .o (.s (.s .o .o) (.s (.b (.s .o (.s .o (.s .o .o)))) .o))))))) [.lf (.fn yield), .lf (.ptr (some c0))] [] R) (fun w => W_board_Board_All_c1 yield c0 R w) := ⟨by kernel_rfl⟩
theorem call_board_Board_All_c1 (yield : Fv) (c0 : Pt) (R : Rs.T [] → WP) (w : World) (h : W_board_Board_All_c1 yield c0 R w) :
    CallX Try.prog 49 ([.lf (.fn yield), .lf (.ptr (some c0))].map V1.enc) w fun v w' => ∃ x, v = (retTV (Rs.mk [] x)).enc ∧ R x w' :=
  callX_of_semF Try.func49 (by kernel_rfl) (by kernel_rfl) (sem_board_Board_All_c1 yield c0 R) h

/-- (*canter/board.Board).may -/
def W_board_Board_may (b : Option Pt) (upto : Int) (sacks : Sl) (R : Rs.T [.lf .bool] → WP) : WP :=
  new [.ptr b] fun n1 =>
  ld [.ptr] ⟨n1, 0⟩ fun (x2 : Option Pt) =>
  deref x2 fun q3 =>
  ld [.int .u64] ⟨q3.b, q3.o + 1⟩ fun (x4 : Int) =>
  ite' (decide (upto ≤ x4)) (
  call Try.prog 70 [.lf (.sl sacks), .lf (.fn (.mk (.func 71) [] [V1.enc (.lf (.ptr (some ⟨n1, 0⟩)))]))] [.lf .bool] fun (r5 : Bool) =>
  R (!r5)) <|
  R false
theorem sem_board_Board_may (b : Option Pt) (upto : Int) (sacks : Sl) (R : Rs.T [.lf .bool] → WP) : Same (semF Try.prog Try.f50 (.s .o (.s .o .o)) [.lf (.ptr b), .lf (.int .u64 upto), .lf (.sl sacks)] [.lf .bool] R) (fun w => W_board_Board_may b upto sacks R w) := ⟨by kernel_rfl⟩
theorem call_board_Board_may (b : Option Pt) (upto : Int) (sacks : Sl) (R : Rs.T [.lf .bool] → WP) (w : World) (h : W_board_Board_may b upto sacks R w) :
    CallX Try.prog 50 ([.lf (.ptr b), .lf (.int .u64 upto), .lf (.sl sacks)].map V1.enc) w fun v w' => ∃ x, v = (retTV (Rs.mk [.lf .bool] x)).enc ∧ R x w' :=
  callX_of_semF Try.func50 (by kernel_rfl) (by kernel_rfl) (sem_board_Board_may b upto sacks R) h

/-- canter/board.holds -/
def W_board_holds (sacks : Sl) (p : T_u6b3) (R : Rs.T [.lf .bool] → WP) : WP :=
  new (Ks.mk K_u6b3 p) fun n1 =>
  call Try.prog 70 [.lf (.sl sacks), .lf (.fn (.mk (.func 72) [] [V1.enc (.lf (.ptr (some ⟨n1, 0⟩)))]))] [.lf .bool] fun (r2 : Bool) =>
  R r2
theorem sem_board_holds (sacks : Sl) (p : T_u6b3) (R : Rs.T [.lf .bool] → WP) : Same (semF Try.prog Try.f51 (.s .o (.s .o .o)) [.lf (.sl sacks), .agg (Ks.mk K_u6b3 p)] [.lf .bool] R) (fun w => W_board_holds sacks p R w) := ⟨by kernel_rfl⟩
theorem call_board_holds (sacks : Sl) (p : T_u6b3) (R : Rs.T [.lf .bool] → WP) (w : World) (h : W_board_holds sacks p R w) :
    CallX Try.prog 51 ([.lf (.sl sacks), .agg (Ks.mk K_u6b3 p)].map V1.enc) w fun v w' => ∃ x, v = (retTV (Rs.mk [.lf .bool] x)).enc ∧ R x w' :=
  callX_of_semF Try.func51 (by kernel_rfl) (by kernel_rfl) (sem_board_holds sacks p R) h

/-- (*canter/board.Board).passed -/
def W_board_Board_passed (b : Option Pt) (R : Rs.T [.lf (.int .u64)] → WP) : WP :=
  deref b fun q1 =>
  ld [.sl] q1 fun (x2 : Sl) =>
  loop K_ui2 ((0:Int), (0:Int), (IntKind.i64.wrap (((x2.len : Nat) : Int) - (1:Int)))) fun J3 (y4 : T_ui2) =>
  ite' (decide (y4.2.2 ≥ (0:Int))) (
  deref b fun q5 =>
  ld [.sl] q5 fun (x6 : Sl) =>
  idx x6 y4.2.2 9 fun q7 =>
  join [.int .i64] (fun J8 =>
  deref (some q7) fun q10 =>
  ld [.bool] ⟨q10.b, q10.o + 7⟩ fun (x11 : Bool) =>
  ite' x11 (
  J8 (IntKind.i64.wrap (y4.2.1 + (1:Int)))) <|
  J8 y4.2.1) fun (y9 : Int) =>
  deref (some q7) fun q12 =>
  ld K_u6b3 q12 fun (x13 : T_u6b3) =>
  call Try.prog 47 [.agg (Ks.mk K_u6b3 x13)] [.lf .bool] fun (r14 : Bool) =>
  ite' (r14 && (decide (y9 ≥ (3:Int)))) (
  deref (some q7) fun q15 =>
  st ⟨q15.b, q15.o + 8⟩ [.bool true] <|
  drw <|
  deref (some q7) fun q16 =>
  deref (some q7) fun q17 =>
  ld [.int .u64] ⟨q16.b, q16.o + 1⟩ fun (x18 : Int) =>
  ld [.int .u64] q17 fun (x19 : Int) =>
  J3 ((IntKind.u64.wrap (y4.1 + (IntKind.u64.wrap (x18 - x19)))), y9, (IntKind.i64.wrap (y4.2.2 - (1:Int))))) <|
  J3 (y4.1, y9, (IntKind.i64.wrap (y4.2.2 - (1:Int))))) <|
  R y4.1
theorem sem_board_Board_passed (b : Option Pt) (R : Rs.T [.lf (.int .u64)] → WP) : Same (semF Try.prog Try.f52 (.s .o (.s .o (.s (.s .o (.b (.l [(3, .lf (.int .u64)), (4, .lf (.int .i64)), (5, .lf (.int .i64))] (.s (.s .o (.s .o .o)) (.s (.b (.s .o (.j [(4, .lf (.int .i64))] (.s .o (.s .o .o)) (.s .o (.s (.s .o (.d (.f 0 [3] (.f 1 [6] (.f 5 [6] (.f 2 [41] (.f 6 [45] (.f 3 [42] (.f 7 [46] (.f 4 [43] (.f 8 [47] (.f 9 [44, 48] (.f 10 [40, 49] (.w 11 [50] .fin)))))))))))))) .o))))) .o))))) (.s .o .o)))) [.lf (.ptr b)] [.lf (.int .u64)] R) (fun w => W_board_Board_passed b R w) := ⟨by kernel_rfl⟩
theorem call_board_Board_passed (b : Option Pt) (R : Rs.T [.lf (.int .u64)] → WP) (w : World) (h : W_board_Board_passed b R w) :
    CallX Try.prog 52 ([.lf (.ptr b)].map V1.enc) w fun v w' => ∃ x, v = (retTV (Rs.mk [.lf (.int .u64)] x)).enc ∧ R x w' :=
  callX_of_semF Try.func52 (by kernel_rfl) (by kernel_rfl) (sem_board_Board_passed b R) h

/-- canter/canterhelp.Same[canter/api.Piece] -/
def W_canterhelp_Same_apiPiece (a : Sl) (b : Sl) (one : Fv) (R : Rs.T [.lf .bool] → WP) : WP :=
  ite' (((a.len : Nat) : Int) != ((b.len : Nat) : Int)) (
  R false) <|
  loop [.int .i64] (0:Int) fun J1 (y2 : Int) =>
  ite' (decide (y2 < ((a.len : Nat) : Int))) (
  drw <|
  idx a y2 9 fun q3 =>
  idx b y2 9 fun q4 =>
  ld K_u6b3 q3 fun (x5 : T_u6b3) =>
  ld K_u6b3 q4 fun (x6 : T_u6b3) =>
  callv Try.prog one [.agg (Ks.mk K_u6b3 x5), .agg (Ks.mk K_u6b3 x6)] [.lf .bool] fun (r7 : Bool) =>
  ite' (!r7) (
  R false) <|
  J1 (IntKind.i64.wrap (y2 + (1:Int)))) <|
  R true
theorem sem_canterhelp_Same_apiPiece (a : Sl) (b : Sl) (one : Fv) (R : Rs.T [.lf .bool] → WP) : Same (semF Try.prog Try.f53 (.s .o (.s (.s .o (.s (.s .o .o) .o)) (.s (.s .o (.b (.l [(7, .lf (.int .i64))] (.s (.s .o (.s .o .o)) (.s (.b (.s (.d (.f 0 [2] (.f 1 [0] (.f 2 [7] (.f 5 [1] (.f 6 [7] (.f 3 [20, 21] (.f 7 [24, 25] (.f 4 [22] (.f 8 [26] (.w 9 [19, 23, 27] (.f 10 [28] .fin)))))))))))) (.s (.s .o .o) .o))) .o))))) (.s .o .o)))) [.lf (.sl a), .lf (.sl b), .lf (.fn one)] [.lf .bool] R) (fun w => W_canterhelp_Same_apiPiece a b one R w) := ⟨by kernel_rfl⟩
theorem call_canterhelp_Same_apiPiece (a : Sl) (b : Sl) (one : Fv) (R : Rs.T [.lf .bool] → WP) (w : World) (h : W_canterhelp_Same_apiPiece a b one R w) :
    CallX Try.prog 53 ([.lf (.sl a), .lf (.sl b), .lf (.fn one)].map V1.enc) w fun v w' => ∃ x, v = (retTV (Rs.mk [.lf .bool] x)).enc ∧ R x w' :=
  callX_of_semF Try.func53 (by kernel_rfl) (by kernel_rfl) (sem_canterhelp_Same_apiPiece a b one R) h

/-- canter/canterhelp.Plain[canter/api.Piece]$1 -/
def W_canterhelp_Plain_apiPiece_c1 (x : T_u6b3) (y : T_u6b3) (R : Rs.T [.lf .bool] → WP) : WP :=
  new (Ks.mk K_u6b3 x) fun n1 =>
  new (Ks.mk K_u6b3 y) fun n2 =>
  ld K_u6b3 ⟨n1, 0⟩ fun (x3 : T_u6b3) =>
  ld K_u6b3 ⟨n2, 0⟩ fun (x4 : T_u6b3) =>
  R ((x3.1 == x4.1) && ((x3.2.1 == x4.2.1) && (((x3.2.2.1 == x4.2.2.1) && ((x3.2.2.2.1 == x4.2.2.2.1) && ((x3.2.2.2.2.1 == x4.2.2.2.2.1) && ((x3.2.2.2.2.2.1 == x4.2.2.2.2.2.1) && (x3.2.2.2.2.2.2.1 == x4.2.2.2.2.2.2.1))))) && ((x3.2.2.2.2.2.2.2.1 == x4.2.2.2.2.2.2.2.1) && (x3.2.2.2.2.2.2.2.2 == x4.2.2.2.2.2.2.2.2)))))
theorem sem_canterhelp_Plain_apiPiece_c1 (x : T_u6b3) (y : T_u6b3) (R : Rs.T [.lf .bool] → WP) : Same (semF Try.prog Try.f54 (.s .o (.s .o .o)) [.agg (Ks.mk K_u6b3 x), .agg (Ks.mk K_u6b3 y)] [.lf .bool] R) (fun w => W_canterhelp_Plain_apiPiece_c1 x y R w) := ⟨by kernel_rfl⟩
theorem call_canterhelp_Plain_apiPiece_c1 (x : T_u6b3) (y : T_u6b3) (R : Rs.T [.lf .bool] → WP) (w : World) (h : W_canterhelp_Plain_apiPiece_c1 x y R w) :
    CallX Try.prog 54 ([.agg (Ks.mk K_u6b3 x), .agg (Ks.mk K_u6b3 y)].map V1.enc) w fun v w' => ∃ x, v = (retTV (Rs.mk [.lf .bool] x)).enc ∧ R x w' :=
  callX_of_semF Try.func54 (by kernel_rfl) (by kernel_rfl) (sem_canterhelp_Plain_apiPiece_c1 x y R) h

/-- (*canter/board.Board).lost -/
def W_board_Board_lost (n0 : Nat) (b : Option Pt) (R : Rs.T [.lf (.int .i64)] → WP) : WP :=
  new [.int .i64 (0:Int)] fun n1 =>
  new [.int .i64 (0:Int)] fun n2 =>
  st ⟨n2, 0⟩ [.int .i64 (0:Int)] <|
  call Try.prog 19 [.lf (.ptr b)] [.lf .fn] fun (r3 : Fv) =>
  rangeF Try.prog r3 [.agg K_u6b3] (fun (v4 : T_u6b3) mid5 next6 jump7 =>
  new [.int .u64 (0:Int), .int .u64 (0:Int), .int .u64 (0:Int), .int .u64 (0:Int), .int .u64 (0:Int), .int .u64 (0:Int), .bool false, .bool false, .bool false] fun n8 =>
  st ⟨n8, 0⟩ (Ks.mk K_u6b3 v4) <|
  mid5 <|
  ld [.bool] ⟨n8, 8⟩ fun (x9 : Bool) =>
  ite' x9 (
  ld [.int .i64] ⟨n2, 0⟩ fun (x10 : Int) =>
  st ⟨n1, 0⟩ [.int .i64 x10] <|
  jump7 1) <|
  ld [.int .i64] ⟨n2, 0⟩ fun (x11 : Int) =>
  st ⟨n2, 0⟩ [.int .i64 (IntKind.i64.wrap (x11 + (1:Int)))] <|
  next6) fun i12 => isBy 0 i12 (st ⟨n1, 0⟩ [.int .i64 (-1:Int)] <|
  ld [.int .i64] ⟨n1, 0⟩ fun (x13 : Int) =>
  leave n0 <| R x13) <|
  isBy 1 i12 (ld [.int .i64] ⟨n1, 0⟩ fun (x14 : Int) =>
  leave n0 <| R x14) <|
  wno
theorem sem_board_Board_lost (b : Option Pt) (R : Rs.T [.lf (.int .i64)] → WP) : Same (semF Try.prog Try.f63 (.s .o (.s .o (.s (.s .o (.b (.r [.agg K_u6b3] .o (.b (.s (.s .o (.s (.s .o .o) .o)) .o))))) (.s .o .o)))) [.lf (.ptr b)] [.lf (.int .i64)] R) (fun w => W_board_Board_lost w.heap.size b R w) := ⟨by kernel_rfl⟩
theorem call_board_Board_lost (b : Option Pt) (R : Rs.T [.lf (.int .i64)] → WP) (w : World) (h : W_board_Board_lost w.heap.size b R w) :
    CallX Try.prog 63 ([.lf (.ptr b)].map V1.enc) w fun v w' => ∃ x, v = (retTV (Rs.mk [.lf (.int .i64)] x)).enc ∧ R x w' :=
  callX_of_semF Try.func63 (by kernel_rfl) (by kernel_rfl) (sem_board_Board_lost b R) h

/-- slices.ContainsFunc[[]canter/api.Range,canter/api.Range] -/
def W_slices_ContainsFunc_sapiRangeapiRange (s : Sl) (f : Fv) (R : Rs.T [.lf .bool] → WP) : WP :=
  call Try.prog 79 [.lf (.sl s), .lf (.fn f)] [.lf (.int .i64)] fun (r1 : Int) =>
  R (decide (r1 ≥ (0:Int)))
theorem sem_slices_ContainsFunc_sapiRangeapiRange (s : Sl) (f : Fv) (R : Rs.T [.lf .bool] → WP) : Same (semF Try.prog Try.f70 (.s .o (.s .o .o)) [.lf (.sl s), .lf (.fn f)] [.lf .bool] R) (fun w => W_slices_ContainsFunc_sapiRangeapiRange s f R w) := ⟨by kernel_rfl⟩
theorem call_slices_ContainsFunc_sapiRangeapiRange (s : Sl) (f : Fv) (R : Rs.T [.lf .bool] → WP) (w : World) (h : W_slices_ContainsFunc_sapiRangeapiRange s f R w) :
    CallX Try.prog 70 ([.lf (.sl s), .lf (.fn f)].map V1.enc) w fun v w' => ∃ x, v = (retTV (Rs.mk [.lf .bool] x)).enc ∧ R x w' :=
  callX_of_semF Try.func70 (by kernel_rfl) (by kernel_rfl) (sem_slices_ContainsFunc_sapiRangeapiRange s f R) h

/-- (*canter/board.Board).may$1 -/
def W_board_Board_may_c1 (r : Int × Int) (c0 : Pt) (R : Rs.T [.lf .bool] → WP) : WP :=
  new (Ks.mk [.int .u64, .int .u64] r) fun n1 =>
  drw <|
  ld [.ptr] c0 fun (x2 : Option Pt) =>
  ld [.int .u64] ⟨n1, 1⟩ fun (x3 : Int) =>
  deref x2 fun q4 =>
  ld [.int .u64] ⟨q4.b, q4.o + 1⟩ fun (x5 : Int) =>
  ite' (decide (x3 > x5)) (
  R true) <|
  ld [.int .u64] ⟨n1, 0⟩ fun (x6 : Int) =>
  ld [.int .u64] ⟨n1, 1⟩ fun (x7 : Int) =>
  R (decide (x6 ≥ x7))
theorem sem_board_Board_may_c1 (r : Int × Int) (c0 : Pt) (R : Rs.T [.lf .bool] → WP) : Same (semF Try.prog Try.f71 (.s .o (.s (.d (.f 0 [2] (.f 2 [1] (.f 1 [4] (.f 3 [6] (.f 4 [7] (.f 5 [8] (.f 6 [5, 9] (.f 7 [10] (.f 8 [2, 11] (.f 10 [2, 11] (.f 9 [11, 12] (.f 11 [11, 14] (.f 12 [11, 13, 15] (.f 13 [11, 16] (.w 14 [17] .fin)))))))))))))))) .o)) [.agg (Ks.mk [.int .u64, .int .u64] r), .lf (.ptr (some c0))] [.lf .bool] R) (fun w => W_board_Board_may_c1 r c0 R w) := ⟨by kernel_rfl⟩
theorem call_board_Board_may_c1 (r : Int × Int) (c0 : Pt) (R : Rs.T [.lf .bool] → WP) (w : World) (h : W_board_Board_may_c1 r c0 R w) :
    CallX Try.prog 71 ([.agg (Ks.mk [.int .u64, .int .u64] r), .lf (.ptr (some c0))].map V1.enc) w fun v w' => ∃ x, v = (retTV (Rs.mk [.lf .bool] x)).enc ∧ R x w' :=
  callX_of_semF Try.func71 (by kernel_rfl) (by kernel_rfl) (sem_board_Board_may_c1 r c0 R) h

/-- canter/board.holds$1 -/
def W_board_holds_c1 (r : Int × Int) (c0 : Pt) (R : Rs.T [.lf .bool] → WP) : WP :=
  new (Ks.mk [.int .u64, .int .u64] r) fun n1 =>
  ld [.int .u64] ⟨n1, 0⟩ fun (x2 : Int) =>
  ld [.int .u64] c0 fun (x3 : Int) =>
  ite' (decide (x2 ≤ x3)) (
  ld [.int .u64] ⟨n1, 1⟩ fun (x4 : Int) =>
  ld [.int .u64] ⟨c0.b, c0.o + 1⟩ fun (x5 : Int) =>
  R (decide (x4 ≥ x5))) <|
  R false
theorem sem_board_holds_c1 (r : Int × Int) (c0 : Pt) (R : Rs.T [.lf .bool] → WP) : Same (semF Try.prog Try.f72 (.s .o (.s .o .o)) [.agg (Ks.mk [.int .u64, .int .u64] r), .lf (.ptr (some c0))] [.lf .bool] R) (fun w => W_board_holds_c1 r c0 R w) := ⟨by kernel_rfl⟩
theorem call_board_holds_c1 (r : Int × Int) (c0 : Pt) (R : Rs.T [.lf .bool] → WP) (w : World) (h : W_board_holds_c1 r c0 R w) :
    CallX Try.prog 72 ([.agg (Ks.mk [.int .u64, .int .u64] r), .lf (.ptr (some c0))].map V1.enc) w fun v w' => ∃ x, v = (retTV (Rs.mk [.lf .bool] x)).enc ∧ R x w' :=
  callX_of_semF Try.func72 (by kernel_rfl) (by kernel_rfl) (sem_board_holds_c1 r c0 R) h

/-- slices.IndexFunc[[]canter/api.Range,canter/api.Range] -/
def W_slices_IndexFunc_sapiRangeapiRange (s : Sl) (f : Fv) (R : Rs.T [.lf (.int .i64)] → WP) : WP :=
  loop [.int .i64] (0:Int) fun J1 (y2 : Int) =>
  ite' (decide (y2 < ((s.len : Nat) : Int))) (
  idx s y2 2 fun q3 =>
  ld [.int .u64, .int .u64] q3 fun (x4 : Int × Int) =>
  callv Try.prog f [.agg (Ks.mk [.int .u64, .int .u64] x4)] [.lf .bool] fun (r5 : Bool) =>
  ite' r5 (
  R y2) <|
  J1 (IntKind.i64.wrap (y2 + (1:Int)))) <|
  R (-1:Int)
theorem sem_slices_IndexFunc_sapiRangeapiRange (s : Sl) (f : Fv) (R : Rs.T [.lf (.int .i64)] → WP) : Same (semF Try.prog Try.f79 (.s .o (.s (.s .o (.b (.l [(8, .lf (.int .i64))] (.s .o (.s (.s .o .o) (.s (.b (.s .o (.s .o (.s (.s .o .o) .o)))) .o)))))) (.s .o .o))) [.lf (.sl s), .lf (.fn f)] [.lf (.int .i64)] R) (fun w => W_slices_IndexFunc_sapiRangeapiRange s f R w) := ⟨by kernel_rfl⟩
theorem call_slices_IndexFunc_sapiRangeapiRange (s : Sl) (f : Fv) (R : Rs.T [.lf (.int .i64)] → WP) (w : World) (h : W_slices_IndexFunc_sapiRangeapiRange s f R w) :
    CallX Try.prog 79 ([.lf (.sl s), .lf (.fn f)].map V1.enc) w fun v w' => ∃ x, v = (retTV (Rs.mk [.lf (.int .i64)] x)).enc ∧ R x w' :=
  callX_of_semF Try.func79 (by kernel_rfl) (by kernel_rfl) (sem_slices_IndexFunc_sapiRangeapiRange s f R) h
end Go.X
