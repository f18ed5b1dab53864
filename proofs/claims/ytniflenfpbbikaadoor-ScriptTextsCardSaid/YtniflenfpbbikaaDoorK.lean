/- Names of kinds and of functions. -/
import Derived.Test.YtniflenfpbbikaaDoorA2
namespace Go.X
abbrev K_i3u2si4u2bi2 : Ks := [.int .i64, .int .i64, .int .i64, .int .u64, .int .u64, .sl, .int .i64, .int .i64, .int .i64, .int .i64, .int .u64, .int .u64, .bool, .int .i64, .int .i64]
abbrev T_i3u2si4u2bi2 : Type := Int × Int × Int × Int × Int × Sl × Int × Int × Int × Int × Int × Int × Bool × Int × Int
abbrev K_i4u2bi2 : Ks := [.int .i64, .int .i64, .int .i64, .int .i64, .int .u64, .int .u64, .bool, .int .i64, .int .i64]
abbrev T_i4u2bi2 : Type := Int × Int × Int × Int × Int × Int × Bool × Int × Int
abbrev K_i6 : Ks := [.int .i64, .int .i64, .int .i64, .int .i64, .int .i64, .int .i64]
abbrev T_i6 : Type := Int × Int × Int × Int × Int × Int
abbrev K_iuiub : Ks := [.int .i64, .int .u64, .int .i64, .int .u64, .bool]
abbrev T_iuiub : Type := Int × Int × Int × Int × Bool
abbrev K_s3u : Ks := [.sl, .sl, .sl, .int .u64]
abbrev T_s3u : Type := Sl × Sl × Sl × Int
abbrev N_canterhelp_Digits : FuncId := 16
abbrev N_canterlaw28_ScriptTexts : FuncId := 4
abbrev N_canterlaw28_awake : FuncId := 7
abbrev N_canterref20_Plain : FuncId := 18
abbrev N_canterref20_Text : FuncId := 15
abbrev N_canterref20_segs : FuncId := 28
abbrev N_script_Decode : FuncId := 10
abbrev N_script_Plain : FuncId := 17
abbrev N_script_Text : FuncId := 14
abbrev N_script_deed : FuncId := 19
abbrev N_script_digits : FuncId := 24
abbrev N_script_segs : FuncId := 25
abbrev N_strconv_FormatUint : FuncId := 26
abbrev N_strconv_Itoa : FuncId := 34
abbrev N_strings_Builder_String : FuncId := 27
abbrev N_strings_Builder_WriteString : FuncId := 23
abbrev qu : Sh := .lf (.int .u64)
abbrev qi : Sh := .lf (.int .i64)
abbrev qp : Sh := .lf .ptr
abbrev qb : Sh := .lf .bool
abbrev qs : Sh := .lf .sl
abbrev zu : Lf := .int .u64 0
abbrev zi : Lf := .int .i64 0
abbrev cu : Ks := [.int .u64]
abbrev ci : Ks := [.int .i64]
abbrev cp : Ks := [.ptr]
abbrev cb : Ks := [.bool]
abbrev cl : Ks := [.sl]
abbrev cr : Ks := [.int .u64, .int .u64]
abbrev vp (x : Option Pt) : V1 := .lf (.ptr x)
abbrev vu (x : Int) : V1 := .lf (.int .u64 x)
abbrev vi (x : Int) : V1 := .lf (.int .i64 x)
abbrev ck (q : Pt) (o : Nat) (K : Ks) (x : Ks.T K) (A : WP) : WP := chk ⟨q.b, q.o + o⟩ (Ks.mk K x) A
abbrev lo (K : Ks) (q : Pt) (o : Nat) (A : Ks.T K → WP) : WP := ld K ⟨q.b, q.o + o⟩ A
abbrev so (q : Pt) (o : Nat) (L : List Lf) (A : WP) : WP := st ⟨q.b, q.o + o⟩ L A
abbrev CW (P : Program) (f : FuncId) (as : List V1) (rs : List Sh) (R : Rs.T rs → WP) : WP := fun w => CallX P f (as.map V1.enc) w fun v w' => ∃ x, v = (retTV (Rs.mk rs x)).enc ∧ R x w'
theorem cs {P : Program} {f : FuncId} {fn : Func} {as : List V1} {rs : List Sh} {R : Rs.T rs → WP} {A : WP} {w : World} (hf : P.funcs[f]? = some fn) (an : Ann) (h : A w) (hs : semF P fn an as rs R = A) (he : ent P f = true := by kernel_rfl) (hn : Nat.ble as.length fn.ntmps = true := by kernel_rfl) : CW P f as rs R w :=
 callX_of_semF (an := an) hf he hn ⟨hs⟩ h
end Go.X
