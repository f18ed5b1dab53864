/- Names of kinds and of functions. -/
import Derived.Test.YtgdhpkfielibbaaXm
namespace Go.X
abbrev K_i2u2su4b2 : Ks := [.int .i64, .int .i64, .int .u64, .int .u64, .sl, .int .u64, .int .u64, .int .u64, .int .u64, .bool, .bool]
abbrev T_i2u2su4b2 : Type := Int × Int × Int × Int × Sl × Int × Int × Int × Int × Bool × Bool
abbrev K_s2i : Ks := [.sl, .sl, .int .i64]
abbrev T_s2i : Type := Sl × Sl × Int
abbrev K_u4b : Ks := [.int .u64, .int .u64, .int .u64, .int .u64, .bool]
abbrev T_u4b : Type := Int × Int × Int × Int × Bool
abbrev K_u6b3 : Ks := [.int .u64, .int .u64, .int .u64, .int .u64, .int .u64, .int .u64, .bool, .bool, .bool]
abbrev T_u6b3 : Type := Int × Int × Int × Int × Int × Int × Bool × Bool × Bool
abbrev K_ui2 : Ks := [.int .u64, .int .i64, .int .i64]
abbrev T_ui2 : Type := Int × Int × Int
abbrev K_usi : Ks := [.int .u64, .sl, .int .i64]
abbrev T_usi : Type := Int × Sl × Int
abbrev N_board_Board_Ack : FuncId := 20
abbrev N_board_Board_Again : FuncId := 45
abbrev N_board_Board_All : FuncId := 19
abbrev N_board_Board_All_c1 : FuncId := 49
abbrev N_board_Board_End : FuncId := 16
abbrev N_board_Board_Flight : FuncId := 17
abbrev N_board_Board_Lose : FuncId := 44
abbrev N_board_Board_Lost : FuncId := 39
abbrev N_board_Board_Sent : FuncId := 15
abbrev N_board_Board_lost : FuncId := 63
abbrev N_board_Board_may : FuncId := 50
abbrev N_board_Board_may_c1 : FuncId := 71
abbrev N_board_Board_passed : FuncId := 52
abbrev N_board_New : FuncId := 13
abbrev N_board_flying : FuncId := 47
abbrev N_board_holds : FuncId := 51
abbrev N_board_holds_c1 : FuncId := 72
abbrev N_canterhelp_All_apiPiece : FuncId := 18
abbrev N_canterhelp_All_apiPiece_c1 : FuncId := 48
abbrev N_canterhelp_In_uint64 : FuncId := 46
abbrev N_canterlaw24_BoardOnce : FuncId := 10
abbrev N_canterlaw24_awake : FuncId := 14
abbrev N_slices_ContainsFunc_sapiRangeapiRange : FuncId := 70
abbrev N_slices_IndexFunc_sapiRangeapiRange : FuncId := 79
end Go.X
