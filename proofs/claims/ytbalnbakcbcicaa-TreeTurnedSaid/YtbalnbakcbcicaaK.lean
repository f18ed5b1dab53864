/- Names of kinds and of functions. -/
import Derived.Test.YtbalnbakcbcicaaXm
namespace Go.X
abbrev K_i3 : Ks := [.int .i64, .int .i64, .int .i64]
abbrev T_i3 : Type := Int × Int × Int
abbrev N_arena_Arena_Free : FuncId := 40
abbrev N_arena_Arena_Get : FuncId := 32
abbrev N_arena_Arena_Has : FuncId := 48
abbrev N_arena_New : FuncId := 29
abbrev N_canterhelp_All_apiKey : FuncId := 15
abbrev N_canterhelp_All_apiKey_c1 : FuncId := 36
abbrev N_canterhelp_Plain_apiKey : FuncId := 22
abbrev N_canterhelp_Plain_apiKey_c1 : FuncId := 42
abbrev N_canterhelp_Same_apiKey : FuncId := 41
abbrev N_canterlaw05_TreeTurned : FuncId := 6
abbrev N_canterlaw05_awake : FuncId := 13
abbrev N_canterlaw05_low : FuncId := 19
abbrev N_cmp_Compare_uint64 : FuncId := 47
abbrev N_cmp_Or_int : FuncId := 46
abbrev N_cmp_isNaN_uint64 : FuncId := 53
abbrev N_rbtree_New : FuncId := 9
abbrev N_rbtree_Tree_All : FuncId := 16
abbrev N_rbtree_Tree_All_c1 : FuncId := 37
abbrev N_rbtree_Tree_Delete : FuncId := 20
abbrev N_rbtree_Tree_Has : FuncId := 21
abbrev N_rbtree_Tree_Height : FuncId := 28
abbrev N_rbtree_Tree_Insert : FuncId := 10
abbrev N_rbtree_Tree_Len : FuncId := 18
abbrev N_rbtree_Tree_Min : FuncId := 11
abbrev N_rbtree_Tree_drop : FuncId := 39
abbrev N_rbtree_Tree_even : FuncId := 45
abbrev N_rbtree_Tree_found : FuncId := 31
abbrev N_rbtree_Tree_hang : FuncId := 33
abbrev N_rbtree_Tree_high : FuncId := 44
abbrev N_rbtree_Tree_lean : FuncId := 50
abbrev N_rbtree_Tree_least : FuncId := 38
abbrev N_rbtree_Tree_mend : FuncId := 49
abbrev N_rbtree_Tree_root : FuncId := 34
abbrev N_rbtree_Tree_turnLeft : FuncId := 51
abbrev N_rbtree_Tree_turnRight : FuncId := 52
abbrev N_rbtree_Tree_way : FuncId := 30
abbrev N_rbtree_compare : FuncId := 35
end Go.X
