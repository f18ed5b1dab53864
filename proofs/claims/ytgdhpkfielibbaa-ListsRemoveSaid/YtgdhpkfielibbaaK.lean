/- Names of kinds and of functions. -/
import Derived.Test.YtgdhpkfielibbaaXm
namespace Go.X

abbrev N_canterhelp_Plain_int : FuncId := 27
abbrev N_canterhelp_Plain_int_c1 : FuncId := 60
abbrev N_canterhelp_Same_int : FuncId := 59
abbrev N_canterlaw19_ListsRemove : FuncId := 5
abbrev N_canterlaw19_awake : FuncId := 23
abbrev N_canterlaw19_told : FuncId := 25
abbrev N_canterlaw19_told_c1 : FuncId := 56
abbrev N_lists_Lists_All : FuncId := 55
abbrev N_lists_Lists_All_c1 : FuncId := 73
abbrev N_lists_Lists_Head : FuncId := 35
abbrev N_lists_Lists_Place : FuncId := 28
abbrev N_lists_Lists_Push : FuncId := 24
abbrev N_lists_Lists_Remove : FuncId := 26
abbrev N_lists_Lists_Remove_c1 : FuncId := 57
abbrev N_lists_New : FuncId := 22
abbrev N_slices_Concat_sintint : FuncId := 74
abbrev N_slices_DeleteFunc_sintint : FuncId := 58
abbrev N_slices_Grow_sintint : FuncId := 80
abbrev N_slices_IndexFunc_sintint : FuncId := 75
end Go.X
